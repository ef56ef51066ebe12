/- A reader's state, and what writes at it alone keep. -/
import Derived.Test.YtaddlkokencbkaaDoorMBase
import Derived.WalkSpells
namespace Go.Proofs.YtaddlkokencbkaaDoor.Rd
open Go.RowKit Go.Proofs.YtaddlkokencbkaaDoorW.PrintWords Go.Proofs.YtaddlkokencbkaaDoorW.PrintLast Go.Proofs.YtaddlkokencbkaaDoorW.PrintMore Go.Proofs.YtaddlkokencbkaaDoor.Exact
set_option linter.unusedVariables false
set_option linter.unusedSimpArgs false

/-- A reader at block g: what is left, its room, its error. -/
def Rd (W : World) (g : Nat) (A : Option Addr) (l : List Int) (c : Nat) (e : Int) : Prop :=
  W.heap[g]? = some (.cells #[.slice A l.length c, .int .i64 e] 72 (0, 0)) ∧ Kd.C (Kd.int .u8) W A l.length l ∧ l.length ≤ c
/-- A2's block, if any, is A's. -/
def SubA (A A2 : Option Addr) : Prop := ∀ a, A2 = some a → ∃ a0, A = some a0 ∧ a.block = a0.block
theorem SubA.refl (A : Option Addr) : SubA A A := fun a h => ⟨a, h, rfl⟩
theorem SubA.trans {A B C : Option Addr} (h : SubA A B) (k : SubA B C) : SubA A C := fun a ha => by
  obtain ⟨b, hb, e⟩ := k a ha
  obtain ⟨c, hc, e2⟩ := h b hb
  exact ⟨c, hc, e.trans e2⟩
theorem SubA.map (A : Option Addr) (m : Nat) : SubA A (A.map (·.add m)) := fun a ha => by
  obtain ⟨b, hb, rfl⟩ := Option.map_eq_some_iff.1 ha
  exact ⟨b, hb, by simp only [Addr.add]; split <;> rfl⟩
/-- Nothing but block g has changed; the bytes of the reader at g lie in the block in which they lay. -/
structure Off (g : Nat) (W W' : World) : Prop where
  os : W'.os = W.os
  tape : W'.tape = W.tape
  output : W'.output = W.output
  keep : KeepBut W W' g none
  same : ∀ a n c, W'.cell? ⟨g, 0, none⟩ = some (.slice (some a) n c) → g < W.heap.size → ∃ a0 n0 c0, W.cell? ⟨g, 0, none⟩ = some (.slice (some a0) n0 c0) ∧ a.block = a0.block
variable {W W1 W2 w : World} {g g2 c n m : Nat} {A : Option Addr} {l xs : List Int} {e : Int}
theorem Off.refl (g : Nat) (W : World) : Off g W W := ⟨rfl, rfl, rfl, KeepBut.refl W g none, fun a n c h _ => ⟨a, n, c, h, rfl⟩⟩
theorem Off.trans (h : Off g W W1) (k : Off g W1 W2) : Off g W W2 := ⟨k.os.trans h.os, k.tape.trans h.tape, k.output.trans h.output, h.keep.trans k.keep (.inl rfl), fun a n c ha hg => by
  obtain ⟨b, n1, c1, hb, e⟩ := k.same a n c ha (Nat.lt_of_lt_of_le hg h.keep.1)
  obtain ⟨d, n2, c2, hd, e2⟩ := h.same b n1 c1 hb hg
  exact ⟨d, n2, c2, hd, e.trans e2⟩⟩
theorem Off.set (h : Off g W W1) (j : Nat) (u : Value) (hj : j ≠ 0 := by decide) : Off g W (W1.setCell ⟨g, j, none⟩ u) := ⟨h.os, h.tape, h.output, h.keep.set_ j u, fun a n c ha hg => h.same a n c (by
  have e : (W1.setCell ⟨g, j, none⟩ u).cell? ⟨g, 0, none⟩ = W1.cell? ⟨g, 0, none⟩ := by
    simp only [World.cell?, World.setCell, Array.getElem?_modify, if_true]
    rcases W1.heap[g]? with _ | o
    · rfl
    · cases o <;> simp [Array.getElem?_setIfInBounds, hj]
  rw [e] at ha
  exact ha) hg⟩
theorem cell_set_none {W : World} {a : Addr} (h : W.cell? a = none) (v : Value) : (W.setCell a v).cell? a = none := by
  unfold World.cell? World.setCell at *
  simp only [Array.getElem?_modify, if_true]
  rcases hx : W.heap[a.block]? with _ | o
  · rfl
  · rw [hx] at h
    cases o with
    | cells c t f =>
      simp only [Option.map_some] at h ⊢
      by_cases hs : a.spot.isSome = true
      · rw [if_pos hs]
      · rw [if_neg hs] at h ⊢
        rw [if_neg hs]
        simp only [Array.getElem?_eq_none_iff] at h ⊢
        simpa using h
    | _ => rfl
theorem Off.setA (h : Off g W W1) {n c n2 c2 : Nat} {A A2 : Option Addr} (h0 : W.cell? ⟨g, 0, none⟩ = some (.slice A n c)) (hs : SubA A A2) : Off g W (W1.setCell ⟨g, 0, none⟩ (.slice A2 n2 c2)) :=
  ⟨h.os, h.tape, h.output, h.keep.set_ 0 _, fun a n' c' ha hg => by
    rcases hx : W1.cell? ⟨g, 0, none⟩ with _ | u
    · rw [cell_set_none hx] at ha
      cases ha
    · have e : (W1.setCell ⟨g, 0, none⟩ (.slice A2 n2 c2)).cell? ⟨g, 0, none⟩ = some (.slice A2 n2 c2) := by
        simp only [World.cell?, World.setCell, Array.getElem?_modify, if_true] at hx ⊢
        rcases hw : W1.heap[g]? with _ | o
        · rw [hw] at hx; cases hx
        · rw [hw] at hx
          cases o with
          | cells cs t f =>
            simp only [Option.isSome_none, Bool.false_eq_true, if_false] at hx
            have hlt := (Array.getElem?_eq_some_iff.1 hx).1
            simp [Array.getElem?_setIfInBounds, hlt]
          | _ => cases hx
      rw [e] at ha
      injection ha with ha
      injection ha with ha
      obtain ⟨a0, h1, e⟩ := hs a ha
      exact ⟨a0, n, c, by rw [h0, h1], e⟩⟩
theorem Off.drew (h : Off g W W1) : Off g W W1.drew := ⟨h.os, h.tape, h.output, h.keep, h.same⟩
theorem Off.drewN (h : Off g W W1) (n : Nat) : Off g W (W1.drewN n) := ⟨h.os, h.tape, h.output, h.keep, h.same⟩
theorem Off.sub (h : Off g W W1) {n c n2 c2 : Nat} {A A2 : Option Addr} (h0 : W.cell? ⟨g, 0, none⟩ = some (.slice A n c)) (h1 : W1.cell? ⟨g, 0, none⟩ = some (.slice A2 n2 c2)) (hg : g < W.heap.size) : SubA A A2 := fun a ha => by
  obtain ⟨a0, n0, c0, h2, e⟩ := h.same a n2 c2 (by rw [h1, ha]) hg
  rw [h0] at h2
  injection h2 with h2
  injection h2 with h2
  exact ⟨a0, h2, e⟩
theorem Off.below (hb : Below w.heap.size w W) (h : Off g W W1) (hg : w.heap.size ≤ g) : Below w.heap.size w W1 :=
  ⟨h.os.trans hb.os, h.tape.trans hb.tape, h.output.trans hb.output, Nat.le_trans hb.size h.keep.1, fun k hk => (h.keep.2 k (Nat.lt_of_lt_of_le hk hb.size) (by omega) (by simp)).trans (hb.block k hk)⟩
/-- Bytes that are read lie not in a reader's block. -/
theorem C_apart (hb : W.heap[g]? = some (.cells #[.slice A m c, .int .i64 e] 72 (0, 0))) {B : Option Addr} (h : Kd.C (Kd.int .u8) W B n xs) : ∀ ad, B = some ad → 0 < n → ad.block ≠ g := by
  rintro ad rfl hn he
  obtain ⟨ad2, cs, e2, hl, hk, hc⟩ := Kd.C_get h 0 0 (by omega) (by omega)
  injection e2 with e2
  subst e2
  match cs, hl with
  | [u], _ =>
    have h2 := hc 0 u rfl
    have h3 : u = .int .u8 (xs.getD 0 0) := by
      have := hk
      simpa [Kd.int, Kd.scalar] using this
    simp only [World.cell?, Addr.add] at h2
    simp at h2
    rw [he, hb] at h2
    simp at h2
    obtain ⟨_, h2⟩ := h2
    rw [h3] at h2
    rcases ad with ⟨b, o, s⟩
    match o, h2 with
    | 0, h2 => simp at h2
    | 1, h2 => simp at h2
    | (k + 2), h2 => simp at h2
theorem C_off {B : Option Addr} (hb : W.heap[g]? = some (.cells #[.slice A m c, .int .i64 e] 72 (0, 0))) (h : Kd.C (Kd.int .u8) W B n xs) (k : Off g W W1) : Kd.C (Kd.int .u8) W1 B n xs :=
  Kd.C_keep (d := (0 : Int)) h k.keep (C_apart hb h)
theorem cell_off {a : Addr} {v : Value} (h : W.cell? a = some v) (hne : a.block ≠ g) (k : Off g W W1) : W1.cell? a = some v := by
  have hlt : a.block < W.heap.size := by
    rcases Nat.lt_or_ge a.block W.heap.size with h1 | h1
    · exact h1
    · have : W.heap[a.block]? = none := by simp [h1]
      simp [World.cell?, this] at h
  rw [World.cell?_of_block (w := W) (k.keep.2 a.block hlt hne (by simp))]
  exact h
theorem Rd.C (h : Rd W g A l c e) : Kd.C (Kd.int .u8) W A l.length l := h.2.1
theorem Rd.off (h : Rd W g A l c e) {A2 : Option Addr} {l2 : List Int} {c2 : Nat} {e2 : Int} (h2 : Rd W g2 A2 l2 c2 e2) (hne : g ≠ g2) (k : Off g2 W W1) : Rd W1 g A l c e :=
  ⟨k.keep.blk h.1 hne (by simp), C_off h2.1 h.2.1 k, h.2.2⟩
theorem Rd.below (h : Rd W g A l c e) (hb : Below W.heap.size W W1) : Rd W1 g A l c e := ⟨blk_below h.1 hb, Kd.C_below h.2.1 hb, h.2.2⟩
theorem Rd.drewN (h : Rd W g A l c e) (n : Nat) : Rd (W.drewN n) g A l c e := ⟨h.1, Kd.C_drewN h.2.1 n, h.2.2⟩
theorem Rd.drew (h : Rd W g A l c e) : Rd W.drew g A l c e := ⟨h.1, Kd.C_drew h.2.1, h.2.2⟩
theorem Rd.lt (h : Rd W g A l c e) : g < W.heap.size := blk_lt h.1
theorem Rd.max (h : Rd W g A l c e) : l.length ≤ 9223372036854775807 := h.2.1.2.1
theorem Rd.set1 (h : Rd W g A l c e) (x : Int) : Rd (W.setCell ⟨g, 1, none⟩ (.int .i64 x)) g A l c x :=
  ⟨blk_put h.1 1 _ rfl, C_off h.1 h.2.1 ((Off.refl g W).set _ _), h.2.2⟩
theorem Rd.set0 (h : Rd W g A l c e) {A2 : Option Addr} {l2 : List Int} {c2 : Nat} (h2 : Kd.C (Kd.int .u8) W A2 l2.length l2) (hc : l2.length ≤ c2) : Rd (W.setCell ⟨g, 0, none⟩ (.slice A2 l2.length c2)) g A2 l2 c2 e :=
  ⟨blk_put h.1 0 _ rfl, Kd.C_keep (d := (0 : Int)) h2 ((KeepBut.refl W g none).set_ 0 _) (C_apart h.1 h2), hc⟩
theorem Rd.cell0 (h : Rd W g A l c e) : W.cell? ⟨g, 0, none⟩ = some (.slice A l.length c) := (blk_cell h.1 0).trans rfl
theorem Rd.cell1 (h : Rd W g A l c e) : W.cell? ⟨g, 1, none⟩ = some (.int .i64 e) := (blk_cell h.1 1).trans rfl
theorem Rd.frozen (h : Rd W g A l c e) (i : Nat) : W.frozen? ⟨g, i, none⟩ = false := blk_frozen h.1 i

/-! ### the small methods -/
def failE (e x : Int) : Int := if e = 0 then x else e
def endE (e : Int) (n : Nat) : Int := if e = 0 ∧ 0 < n then 2 else e
theorem failE_0 (x : Int) : failE 0 x = x := if_pos rfl
theorem failE_ne {e : Int} (h : e ≠ 0) (x : Int) : failE e x = e := if_neg h
theorem endE_pos {n : Nat} (h : 0 < n) : endE 0 n = 2 := if_pos ⟨rfl, h⟩
theorem endE_0 : endE 0 0 = 0 := rfl
theorem endE_ne {e : Int} (h : e ≠ 0) (n : Nat) : endE e n = e := if_neg (fun k => h k.1)

theorem fail_calls (w : World) (g : Nat) (A : Option Addr) (l : List Int) (c : Nat) (e x : Int) (h : Rd w g A l c e) :
    Calls Tryd.prog 88 #[.pointer (some ⟨g, 0, none⟩), .int .i64 x] w fun r w' => r = .returned (.tuple #[]) ∧ Rd w' g A l c (failE e x) ∧ Off g w w' := by
  have H := Aside0.mk h
  have h1 := h.cell1
  have f1 := h.frozen 1
  clear h
  by_cases he : e = 0
  · subst he
    go_enter Tryd.func88, Tryd.ntmps88
    go_wp2
    go_end0
    exact ⟨rfl, by rw [failE_0]; exact H.out.set1 x, (Off.refl g w).set _ _⟩
  · have c1 : decide (e = 0) = false := decide_eq_false he
    go_enter Tryd.func88, Tryd.ntmps88
    go_wp2
    go_end0
    exact ⟨rfl, by rw [failE_ne he]; exact H.out, Off.refl g w⟩
theorem left_calls (w : World) (g : Nat) (A : Option Addr) (l : List Int) (c : Nat) (e : Int) (h : Rd w g A l c e) :
    Calls Tryd.prog 18 #[.pointer (some ⟨g, 0, none⟩)] w fun r w' => r = .returned (.int .i64 l.length) ∧ w = w' := by
  have h0 := h.cell0
  have f0 := h.frozen 0
  clear h
  go_enter Tryd.func18, Tryd.ntmps18
  go_wp2
  go_ret
  exact ⟨rfl, rfl⟩
theorem errno_calls (w : World) (g : Nat) (A : Option Addr) (l : List Int) (c : Nat) (e : Int) (h : Rd w g A l c e) :
    Calls Tryd.prog 66 #[.pointer (some ⟨g, 0, none⟩)] w fun r w' => r = .returned (.int .i64 e) ∧ w = w' := by
  have h0 := h.cell1
  have f0 := h.frozen 1
  clear h
  go_enter Tryd.func66, Tryd.ntmps66
  go_wp2
  go_ret
  exact ⟨rfl, rfl⟩
theorem end_calls (w : World) (g : Nat) (A : Option Addr) (l : List Int) (c : Nat) (e : Int) (h : Rd w g A l c e) :
    Calls Tryd.prog 39 #[.pointer (some ⟨g, 0, none⟩)] w fun r w' => r = .returned (.int .i64 (endE e l.length)) ∧ w = w' := by
  have h0 := h.cell0
  have f0 := h.frozen 0
  have h1 := h.cell1
  have f1 := h.frozen 1
  clear h
  by_cases he : e = 0
  · subst he
    by_cases hl : 0 < l.length
    · have c1 : decide ((0 : Int) < (l.length : Int)) = true := decide_eq_true (by omega)
      go_enter Tryd.func39, Tryd.ntmps39
      go_wp2
      go_ret
      exact ⟨by rw [endE_pos hl]; rfl, rfl⟩
    · have c1 : decide ((0 : Int) < (l.length : Int)) = false := decide_eq_false (by omega)
      go_enter Tryd.func39, Tryd.ntmps39
      go_wp2
      go_ret
      exact ⟨by rw [show l.length = 0 by omega, endE_0]; rfl, rfl⟩
  · have c1 : decide (e = 0) = false := decide_eq_false he
    go_enter Tryd.func39, Tryd.ntmps39
    go_wp2
    go_ret
    exact ⟨by rw [endE_ne he]; rfl, rfl⟩
theorem read_calls (w : World) (A : Option Addr) (l : List Int) (c : Nat) (h : Kd.C (Kd.int .u8) w A l.length l) (hc : l.length ≤ c) :
    Calls Tryd.prog 14 #[.slice A l.length c] w fun r w' => ∃ g, r = .returned (.pointer (some ⟨g, 0, none⟩)) ∧ w.heap.size ≤ g ∧ Rd w' g A l c 0 ∧ Below w.heap.size w w' := by
  have H := Aside0.mk h
  clear h
  go_enter Tryd.func14, Tryd.ntmps14
  go_wp2
  go_ret
  exact ⟨_, rfl, Nat.le_refl _, ⟨blk_new w _, Kd.C_alloc H.out _, hc⟩, below_alloc (Below.refl _ _) _⟩

/-! ### take -/
def subA (A : Option Addr) (c m : Nat) : Option Addr := if c = m then A else A.map (·.add m)
theorem C_sub {W : World} {A : Option Addr} {l : List Int} {c m : Nat} (h : Kd.C (Kd.int .u8) W A l.length l) (hm : m ≤ l.length) (hc : l.length ≤ c) : Kd.C (Kd.int .u8) W (subA A c m) (l.drop m).length (l.drop m) := by
  have := Kd.C_drop h hm hc
  rw [show (Kd.int .u8).sz = 1 from rfl, Nat.mul_one] at this
  exact this
theorem take_no (w : World) (g : Nat) (A : Option Addr) (l : List Int) (c : Nat) (e n : Int) (h : Rd w g A l c e) (hn : e ≠ 0 ∨ n > l.length) :
    Calls Tryd.prog 85 #[.pointer (some ⟨g, 0, none⟩), .int .i64 n] w fun r w' => r = .returned (.slice none 0 0) ∧ Rd w' g A l c (failE e 4) ∧ Off g w w' := by
  have H := Aside0.mk h
  have h0 := h.cell0
  have f0 := h.frozen 0
  have h1 := h.cell1
  have f1 := h.frozen 1
  clear h
  by_cases he : e = 0
  · subst he
    have c1 : decide (n > (l.length : Int)) = true := decide_eq_true (by omega)
    clear hn
    go_enter Tryd.func85, Tryd.ntmps85
    go_wp2_with (first | (go_at_call 88; refine (fail_calls _ g A l c 0 4 H.out).mono ?_; rintro r w' ⟨rfl, hr, ho⟩; have H2 := Aside0.mk hr; have HO := Aside0.mk ho; have h0 := hr.cell0; have f0 := hr.frozen 0; have h1 := hr.cell1; rw [failE_0] at h1; have f1 := hr.frozen 1; clear hr ho))
    go_ret
    exact ⟨rfl, H2.out, HO.out⟩
  · have c1 : decide (e = 0) = false := decide_eq_false he
    clear hn
    go_enter Tryd.func85, Tryd.ntmps85
    go_wp2
    go_ret
    exact ⟨rfl, by rw [failE_ne he]; exact H.out, Off.refl _ _⟩
theorem take_yes (w : World) (g : Nat) (A : Option Addr) (l : List Int) (c m : Nat) (h : Rd w g A l c 0) (hn : m ≤ l.length) :
    Calls Tryd.prog 85 #[.pointer (some ⟨g, 0, none⟩), .int .i64 m] w fun r w' => r = .returned (.slice A m c) ∧ Rd w' g (subA A c m) (l.drop m) (c - m) 0 ∧ Off g w w' := by
  have H := Aside0.mk h
  have h0 := h.cell0
  have f0 := h.frozen 0
  have h1 := h.cell1
  have f1 := h.frozen 1
  have hmax := h.max
  have hlc := h.2.2
  clear h
  have c1 : decide ((m : Int) > (l.length : Int)) = false := decide_eq_false (by omega)
  have HS : Aside0 (Rd (w.setCell ⟨g, 0, none⟩ (.slice (subA A c m) (l.length - m) (c - m))) g (subA A c m) (l.drop m) (c - m) 0) := ⟨by
    have := H.out.set0 (C_sub H.out.C hn hlc) (c2 := c - m) (by rw [List.length_drop]; omega)
    rw [List.length_drop] at this
    exact this⟩
  by_cases hcm : c = m
  · subst hcm
    go_enter Tryd.func85, Tryd.ntmps85
    go_wp2
    go_ret
    have HS := HS.out
    rw [show subA A c c = A from if_pos rfl, Nat.sub_self, show l.length - c = 0 by omega] at HS
    rw [show subA A c c = A from if_pos rfl, Nat.sub_self]
    exact ⟨rfl, HS, (Off.refl _ _).setA H.out.cell0 (SubA.refl _)⟩
  · have HC := Aside0.mk hcm
    go_enter Tryd.func85, Tryd.ntmps85
    go_wp2
    go_ret
    have HS := HS.out
    rw [show subA A c m = A.map (·.add m) from if_neg HC.out] at HS ⊢
    exact ⟨rfl, HS, (Off.refl _ _).setA H.out.cell0 (SubA.map _ _)⟩
theorem neq_nil (w : World) (a : Option Addr) (n c : Nat) : (binOp .neq 25 (.slice a n c) (.slice none 0 0)).run Tryd.prog w = .ok (.bool (!a.isNone)) w := run_neq_slice_nil_any w _ _ a n c 0 0 Tryd.underlying25
theorem eql_nil (w : World) (a : Option Addr) (n c : Nat) : (binOp .eql 25 (.slice a n c) (.slice none 0 0)).run Tryd.prog w = .ok (.bool a.isNone) w := Lib.run_eql_slice_nil w _ _ a n c 0 0 Tryd.underlying25
def byteV (l : List Int) (e : Int) : Int := if e = 0 then l.headD 0 else 0
def byteL (l : List Int) (e : Int) : List Int := if e = 0 then l.drop 1 else l
def byteE (l : List Int) (e : Int) : Int := if e = 0 ∧ 0 < l.length then 0 else failE e 4
theorem byte_calls (w : World) (g : Nat) (A : Option Addr) (l : List Int) (c : Nat) (e : Int) (h : Rd w g A l c e) (hb : ∀ x ∈ l, 0 ≤ x ∧ x < 256) :
    Calls Tryd.prog 63 #[.pointer (some ⟨g, 0, none⟩)] w fun r w' => ∃ A' c', r = .returned (.int .i64 (byteV l e)) ∧ Rd w' g A' (byteL l e) c' (byteE l e) ∧ Off g w w' := by
  have H := Aside0.mk h
  have qn := neq_nil
  by_cases hy : e = 0 ∧ 0 < l.length
  · obtain ⟨rfl, hl⟩ := hy
    obtain ⟨ad, cs, rfl, hcl, hk, hc⟩ := Kd.C_get h.C 0 0 (by omega) (by omega)
    match cs, hcl with
    | [u], _ =>
      have h2 := hc 0 u rfl
      obtain rfl : u = .int .u8 (l.getD 0 0) := by
        have := hk
        simpa [Kd.int, Kd.scalar] using this
      have E := Aside0.mk (show byteV l 0 = l.getD 0 0 ∧ byteL l 0 = l.drop 1 ∧ byteE l 0 = 0 from ⟨by cases l <;> rfl, rfl, if_pos ⟨rfl, hl⟩⟩)
      have hx : 0 ≤ l.getD 0 0 ∧ l.getD 0 0 < 256 := by
        cases l with
        | nil => simp at hl
        | cons x l => exact hb x (by simp)
      generalize l.getD 0 0 = x at *
      have HC : Aside0 (w.cell? ad = some (.int .u8 x)) := ⟨by simpa [Addr.add] using h2⟩
      have HNE := Aside0.mk (C_apart h.1 h.C ad rfl hl)
      clear h hc h2 hk hb
      have e1 : IntKind.i64.wrap x = x := by rw [IntKind.wrap_i64]; omega
      go_enter Tryd.func63, Tryd.ntmps63
      go_wp2_with (first | (go_at_call 85; refine (take_yes _ g (some ad) l c 1 H.out hl).mono ?_; rintro r w' ⟨rfl, hr, ho⟩; have H2 := Aside0.mk hr; have HO := Aside0.mk ho; have hcc : w'.cell? ad = some (.int .u8 x) := (cell_off HC.out HNE.out ho); clear hr ho))
      go_ret
      exact ⟨_, _, by rw [E.out.1]; rfl, by rw [E.out.2.1, E.out.2.2]; exact H2.out, HO.out⟩
  · have E := Aside0.mk (show byteV l e = 0 ∧ byteL l e = l ∧ byteE l e = failE e 4 from ⟨by
        unfold byteV
        by_cases he : e = 0
        · rw [if_pos he, List.eq_nil_of_length_eq_zero (by omega : l.length = 0)]; rfl
        · rw [if_neg he], by
        unfold byteL
        by_cases he : e = 0
        · rw [if_pos he, List.eq_nil_of_length_eq_zero (by omega : l.length = 0)]; rfl
        · rw [if_neg he], if_neg hy⟩)
    have hn : e ≠ 0 ∨ (1 : Int) > l.length := by omega
    clear h hb hy
    go_enter Tryd.func63, Tryd.ntmps63
    go_wp2_with (first | (go_at_call 85; refine (take_no _ g A l c e 1 H.out hn).mono ?_; rintro r w' ⟨rfl, hr, ho⟩; have H2 := Aside0.mk hr; have HO := Aside0.mk ho; clear hr ho))
    go_ret
    exact ⟨_, _, by rw [E.out.1]; rfl, by rw [E.out.2.1, E.out.2.2]; exact H2.out, HO.out⟩
end Go.Proofs.YtaddlkokencbkaaDoor.Rd
