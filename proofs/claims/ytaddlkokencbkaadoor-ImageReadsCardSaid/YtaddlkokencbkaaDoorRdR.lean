/- The document's reader (pantographref01.R), by hand: Byte, Number, Signed and Text answer as lay's reader does. -/
import Derived.Test.YtaddlkokencbkaaDoorMRd
import Derived.Test.YtaddlkokencbkaaDoorQ4
namespace Go.Proofs.YtaddlkokencbkaaDoor.RdR
open Go.RowKit Go.Proofs.YtaddlkokencbkaaDoorW.PrintWords Go.Proofs.YtaddlkokencbkaaDoorW.PrintLast Go.Proofs.YtaddlkokencbkaaDoorW.PrintMore Go.Proofs.YtaddlkokencbkaaDoor.Q Go.Proofs.YtaddlkokencbkaaDoor.Exact Go.Proofs.YtaddlkokencbkaaDoor.Rd Go.Proofs.YtaddlkokencbkaaDoor.RdN
set_option linter.unusedVariables false
set_option linter.unusedSimpArgs false
variable {W W1 W2 w : World} {g g2 c n m : Nat} {A : Option Addr} {l xs : List Int} {e : Int}

/-- A reader at block g: what is left, its room, its error. -/
def RdR (W : World) (g : Nat) (A : Option Addr) (l : List Int) (c : Nat) (e : Int) : Prop :=
  W.heap[g]? = some (.cells #[.slice A l.length c, .int .i64 e] 33 (0, 0)) ∧ Kd.C (Kd.int .u8) W A l.length l ∧ l.length ≤ c
/-- Bytes that are read lie not in a reader's block. -/
theorem C_apartR (hb : W.heap[g]? = some (.cells #[.slice A m c, .int .i64 e] 33 (0, 0))) {B : Option Addr} (h : Kd.C (Kd.int .u8) W B n xs) : ∀ ad, B = some ad → 0 < n → ad.block ≠ g := by
  rintro ad rfl hn he
  obtain ⟨ad2, cs, e2, hl, hk, hc⟩ := Kd.C_get h 0 0 (by omega) (by omega)
  injection e2 with e2
  subst e2
  match cs, hl with
  | [u], _ =>
    have h2 := hc 0 u rfl
    have h3 : u = .int .u8 (xs.getD 0 0) := by
      have := hk
      simpa [Kd.int, Kd.scalar] using this
    simp only [World.cell?, Addr.add] at h2
    simp at h2
    rw [he, hb] at h2
    simp at h2
    obtain ⟨_, h2⟩ := h2
    rw [h3] at h2
    rcases ad with ⟨b, o, s⟩
    match o, h2 with
    | 0, h2 => simp at h2
    | 1, h2 => simp at h2
    | (k + 2), h2 => simp at h2
theorem C_offR {B : Option Addr} (hb : W.heap[g]? = some (.cells #[.slice A m c, .int .i64 e] 33 (0, 0))) (h : Kd.C (Kd.int .u8) W B n xs) (k : Off g W W1) : Kd.C (Kd.int .u8) W1 B n xs :=
  Kd.C_keep (d := (0 : Int)) h k.keep (C_apartR hb h)
theorem RdR.C (h : RdR W g A l c e) : Kd.C (Kd.int .u8) W A l.length l := h.2.1
theorem RdR.off (h : RdR W g A l c e) {A2 : Option Addr} {l2 : List Int} {c2 : Nat} {e2 : Int} (h2 : RdR W g2 A2 l2 c2 e2) (hne : g ≠ g2) (k : Off g2 W W1) : RdR W1 g A l c e :=
  ⟨k.keep.blk h.1 hne (by simp), C_offR h2.1 h.2.1 k, h.2.2⟩
theorem RdR.below (h : RdR W g A l c e) (hb : Below W.heap.size W W1) : RdR W1 g A l c e := ⟨blk_below h.1 hb, Kd.C_below h.2.1 hb, h.2.2⟩
theorem RdR.drewN (h : RdR W g A l c e) (n : Nat) : RdR (W.drewN n) g A l c e := ⟨h.1, Kd.C_drewN h.2.1 n, h.2.2⟩
theorem RdR.drew (h : RdR W g A l c e) : RdR W.drew g A l c e := ⟨h.1, Kd.C_drew h.2.1, h.2.2⟩
theorem RdR.drawn (h : RdR W g A l c e) (k : Drawn0 W W1) : RdR W1 g A l c e := by obtain ⟨n, rfl⟩ := k; exact h.drewN n
theorem RdR.lt (h : RdR W g A l c e) : g < W.heap.size := blk_lt h.1
theorem RdR.max (h : RdR W g A l c e) : l.length ≤ 9223372036854775807 := h.2.1.2.1
theorem RdR.set1 (h : RdR W g A l c e) (x : Int) : RdR (W.setCell ⟨g, 1, none⟩ (.int .i64 x)) g A l c x :=
  ⟨blk_put h.1 1 _ rfl, C_offR h.1 h.2.1 ((Off.refl g W).set _ _), h.2.2⟩
theorem RdR.set0 (h : RdR W g A l c e) {A2 : Option Addr} {l2 : List Int} {c2 : Nat} (h2 : Kd.C (Kd.int .u8) W A2 l2.length l2) (hc : l2.length ≤ c2) : RdR (W.setCell ⟨g, 0, none⟩ (.slice A2 l2.length c2)) g A2 l2 c2 e :=
  ⟨blk_put h.1 0 _ rfl, Kd.C_keep (d := (0 : Int)) h2 ((KeepBut.refl W g none).set_ 0 _) (C_apartR h.1 h2), hc⟩
theorem RdR.cell0 (h : RdR W g A l c e) : W.cell? ⟨g, 0, none⟩ = some (.slice A l.length c) := (blk_cell h.1 0).trans rfl
theorem RdR.cell1 (h : RdR W g A l c e) : W.cell? ⟨g, 1, none⟩ = some (.int .i64 e) := (blk_cell h.1 1).trans rfl
theorem RdR.frozen (h : RdR W g A l c e) (i : Nat) : W.frozen? ⟨g, i, none⟩ = false := blk_frozen h.1 i

/-! ### ref01.take -/
def TakeOk (k n : Nat) (l : List Int) (v u er : Int) (i : Nat) : Prop :=
  ∃ (vn un : Nat), v = (vn : Int) ∧ u = (un : Int) ∧ ((er = 0 ∧ un ≤ l.length ∧ dg k n (l.drop i) = (vn, l.drop un, 0)) ∨ (er ≠ 0 ∧ vn = 0 ∧ un = 0 ∧ dg k n (l.drop i) = (0, [], er)))
theorem ev_goal {α : Type} {g : Nat → Option α} {r : α} (K : Nat) (h : ∀ k, K ≤ k → g (k + 2) = some r) : Ev g r :=
  ⟨K + 2, fun k hk => by obtain ⟨j, rfl⟩ : ∃ j, k = j + 2 := ⟨k - 2, by omega⟩; exact h j (by omega)⟩
theorem w64 (q : Nat) (h : q < 18446744073709551616) : IntKind.u64.wrap (q : Int) = (q : Int) := by rw [IntKind.wrap_u64]; omega
theorem w_step (n d q : Nat) (hq : q < 18446744073709551616) (h : d * q < 18446744073709551616) (h2 : n + d * q < 18446744073709551616) : IntKind.u64.wrap ((n : Int) + IntKind.u64.wrap ((d : Int) * IntKind.u64.wrap (q : Int))) = ((n + d * q : Nat) : Int) := by
  rw [w64 q hq, ← Int.natCast_mul, w64 _ h, ← Int.natCast_add, w64 _ h2]
theorem w_at (q : Nat) : IntKind.u64.wrap (IntKind.u64.wrap (q : Int) * 128) = IntKind.u64.wrap ((q * 128 : Nat) : Int) := by
  rw [IntKind.wrap_u64, IntKind.wrap_u64, IntKind.wrap_u64]
  omega
theorem w_dig {x : Int} (h0 : 0 ≤ x) (h1 : x < 256) : IntKind.u64.wrap (Int.tmod x 128) = (((x % 128).toNat : Nat) : Int) := by
  rw [Int.tmod_eq_emod_of_nonneg h0, IntKind.wrap_u64]; omega
theorem p9lt {i : Nat} (h : i ≤ 9) : 128 ^ i < 18446744073709551616 := by
  have h1 : 128 ^ i ≤ 128 ^ 9 := Nat.pow_le_pow_right (by omega) h
  have h2 : (128 : Nat) ^ 9 = 9223372036854775808 := by decide
  omega
theorem take_l0 (l : List Int) (hb : ∀ x ∈ l, 0 ≤ x ∧ x < 256) : ∀ (d i n : Nat), i + d = 10 → n < 128 ^ i → ∃ v u er, Ev (fun k => pantographref01_take.l0 k l (n : Int) (IntKind.u64.wrap ((128 ^ i : Nat) : Int)) (i : Int)) (v, u, er) ∧ TakeOk d n l v u er i := by
  intro d
  induction d with
  | zero =>
    intro i n hi hn
    clear hn
    refine ⟨0, 0, 2, ev_goal 0 fun k _ => ?_, 0, 0, rfl, rfl, .inr ⟨by decide, rfl, rfl, rfl⟩⟩
    rw [pantographref01_take.l0, if_neg (by omega)]
  | succ d ih =>
    intro i n hi hn
    have HN := Aside0.mk hn
    clear hn
    by_cases hl : l.length ≤ i
    · refine ⟨0, 0, 4, ev_goal 0 fun k _ => ?_, 0, 0, rfl, rfl, .inr ⟨by decide, rfl, rfl, ?_⟩⟩
      · rw [pantographref01_take.l0, if_pos (by omega), if_pos (by omega)]
      · rw [List.drop_eq_nil_of_le hl]; rfl
    have hil : i < l.length := by omega
    have ed : l.drop i = l[i] :: l.drop (i + 1) := List.drop_eq_getElem_cons hil
    have er : rd l (i : Int) = l[i] := by
      unfold rd
      simp [List.getD_eq_getElem?_getD, List.getElem?_eq_getElem hil]
    have hx := hb _ (List.getElem_mem hil)
    generalize l[i] = x at ed er hx
    have e8 := w_dig hx.1 hx.2
    have hd : (x % 128).toNat < 128 := by omega
    unfold TakeOk
    rw [ed]
    unfold dg
    generalize (x % 128).toNat = dd at *
    by_cases h9 : d = 0 ∧ 1 < dd
    · obtain rfl : i = 9 := by omega
      refine ⟨0, 0, 2, ev_goal 0 fun k _ => ?_, 0, 0, rfl, rfl, .inr ⟨by decide, rfl, rfl, by rw [if_pos h9]⟩⟩
      have hdd : (dd : Int) > 1 := by omega
      rw [pantographref01_take.l0, if_pos (by decide), if_neg (by omega), if_pos (by decide), if_pos (by omega), if_pos (by decide), er, e8, decide_eq_true hdd, pantographref01_take.j1, if_pos rfl]
    have h9' : i ≤ 8 ∨ i = 9 ∧ dd ≤ 1 := by omega
    have HO := Aside0.mk (or_digit HN.out hd h9')
    have EW := Aside0.mk (w_step n dd (128 ^ i) (p9lt (by omega)) (Nat.lt_of_le_of_lt (Nat.le_add_left _ _) HO.out.2.2) HO.out.2.2)
    have EA := Aside0.mk (w_at (128 ^ i))
    have ei : wrap64 ((i : Int) + 1) = ((i + 1 : Nat) : Int) := by unfold wrap64; omega
    have EI := Aside0.mk ei
    clear ei
    have e99 : 9 - d = i := by omega
    have J : ∀ k, pantographref01_take.l0 (k + 2) l (n : Int) (IntKind.u64.wrap ((128 ^ i : Nat) : Int)) (i : Int) = pantographref01_take.j1 (k + 1) l (n : Int) (IntKind.u64.wrap ((128 ^ i : Nat) : Int)) (i : Int) (dd : Int) false := by
      intro k
      rw [pantographref01_take.l0, if_pos (by omega), if_neg (by omega), if_pos (by omega), if_pos (by omega), er, e8]
      by_cases h : i = 9
      · have hdd : ¬ (dd : Int) > 1 := by omega
        rw [if_pos (by omega), decide_eq_false hdd]
      · rw [if_neg (by omega)]
    have JJ := Aside0.mk J
    clear J
    rw [if_neg h9, e99]
    by_cases h128 : x < 128
    · rw [if_pos h128]
      by_cases h0 : x = 0 ∧ d < 9
      · refine ⟨0, 0, 2, ev_goal 0 fun k _ => ?_, 0, 0, rfl, rfl, .inr ⟨by decide, rfl, rfl, by rw [if_pos h0]⟩⟩
        rw [JJ.out, pantographref01_take.j1, if_neg (by simp), if_pos (by omega), if_pos (by omega), er, if_pos h128, if_pos h0.1, if_pos (by omega)]
      · refine ⟨_, _, 0, ev_goal 0 fun k _ => ?_, n + dd * 128 ^ i, i + 1, rfl, rfl, .inl ⟨rfl, by omega, by rw [if_neg h0]⟩⟩
        rw [JJ.out, pantographref01_take.j1, if_neg (by simp), if_pos (by omega), if_pos (by omega), er, if_pos h128, EW.out, EI.out]
        by_cases hx0 : x = 0
        · rw [if_pos hx0, if_neg (by omega)]
        · rw [if_neg hx0]
    · rw [if_neg h128]
      obtain ⟨v, u, er2, ⟨K, hK⟩, hT⟩ := ih (i + 1) (n + dd * 128 ^ i) (by omega) HO.out.2.1
      refine ⟨v, u, er2, ev_goal K fun k hk => ?_, hT⟩
      rw [JJ.out, pantographref01_take.j1, if_neg (by simp), if_pos (by omega), if_pos (by omega), er, if_neg h128, EW.out, EA.out, EI.out, ← Nat.pow_succ]
      exact hK k (by omega)
theorem take_f (l : List Int) (hb : ∀ x ∈ l, 0 ≤ x ∧ x < 256) : ∃ (v u : Nat) (er : Int), Ev (fun k => pantographref01_take.f k l) ((v : Int), (u : Int), er) ∧ u ≤ l.length ∧ v < 18446744073709551616 ∧ ((er = 0 ∧ rdD l 0 = (v, l.drop u, 0)) ∨ (er ≠ 0 ∧ v = 0 ∧ u = 0 ∧ rdD l 0 = (0, l, er))) := by
  obtain ⟨v, u, er, hE, vn, un, rfl, rfl, h⟩ := take_l0 l hb 10 0 0 rfl (by decide)
  refine ⟨vn, un, er, hE, ?_, ?_, ?_⟩
  · rcases h with ⟨_, h, _⟩ | ⟨_, _, rfl, _⟩
    · exact h
    · exact Nat.zero_le _
  · rcases h with ⟨_, _, h⟩ | ⟨_, rfl, _, _⟩
    · have := dg_lt 10 0 l (by omega) (by decide)
      rw [List.drop_zero] at h
      rw [h] at this
      exact this
    · decide
  · rw [List.drop_zero] at h
    rcases h with ⟨h0, _, h⟩ | ⟨h0, h1, h2, h⟩
    · exact .inl ⟨h0, by unfold rdD fin; rw [h]; simp⟩
    · exact .inr ⟨h0, h1, h2, by unfold rdD fin; rw [h]; simp [h0]⟩
theorem take_calls (w : World) (A : Option Addr) (l : List Int) (c : Nat) (h : Kd.C (Kd.int .u8) w A l.length l) (hc : l.length ≤ c) (v u : Nat) (er : Int) (hE : Ev (fun k => pantographref01_take.f k l) ((v : Int), (u : Int), er)) :
    Calls Tryd.prog 69 #[.slice A l.length c] w fun r w' => r = .returned (.tuple #[.int .u64 v, .int .i64 u, .int .i64 er]) ∧ Drawn0 w w' := by
  obtain ⟨K, hK⟩ := hE
  exact pantographref01_take.calls K A c l _ _ _ w h hc (hK K (Nat.le_refl _))

/-! ### the methods -/
theorem off_drawn (h : Drawn0 W W1) : Off g W W1 := by obtain ⟨n, rfl⟩ := h; exact (Off.refl g W).drewN n
theorem rbyte_calls (w : World) (g : Nat) (A : Option Addr) (l : List Int) (c : Nat) (e : Int) (h : RdR w g A l c e) (hb : ∀ x ∈ l, 0 ≤ x ∧ x < 256) :
    Calls Tryd.prog 43 #[.pointer (some ⟨g, 0, none⟩)] w fun r w' => ∃ A' c', r = .returned (.int .i64 (byteV l e)) ∧ RdR w' g A' (byteL l e) c' (byteE l e) ∧ Off g w w' := by
  have H := Aside0.mk h
  have h0 := h.cell0
  have f0 := h.frozen 0
  have h1 := h.cell1
  have f1 := h.frozen 1
  have hmax := h.max
  by_cases he : e = 0
  · subst he
    by_cases hl : 0 < l.length
    · obtain ⟨ad, cs, rfl, hcl, hk, hc⟩ := Kd.C_get h.C 0 0 (by omega) (by omega)
      match cs, hcl with
      | [u], _ =>
        have h2 := hc 0 u rfl
        obtain rfl : u = .int .u8 (l.getD 0 0) := by
          have := hk
          simpa [Kd.int, Kd.scalar] using this
        have E := Aside0.mk (show byteV l 0 = l.getD 0 0 ∧ byteL l 0 = l.drop 1 ∧ byteE l 0 = 0 from ⟨by cases l <;> rfl, rfl, if_pos ⟨rfl, hl⟩⟩)
        have hx : 0 ≤ l.getD 0 0 ∧ l.getD 0 0 < 256 := by
          cases l with
          | nil => simp at hl
          | cons x l => exact hb x (by simp)
        generalize l.getD 0 0 = x at *
        have HC : w.cell? ad = some (.int .u8 x) := by simpa [Addr.add] using h2
        have hlc := h.2.2
        clear h hc h2 hk hb
        have e1 : IntKind.i64.wrap x = x := by rw [IntKind.wrap_i64]; omega
        have c1 : decide ((l.length : Int) = 0) = false := decide_eq_false (by omega)
        have HS : Aside0 (RdR (w.setCell ⟨g, 0, none⟩ (.slice (subA (some ad) c 1) (l.length - 1) (c - 1))) g (subA (some ad) c 1) (l.drop 1) (c - 1) 0) := ⟨by
          have := H.out.set0 (C_sub H.out.C (m := 1) (by omega) hlc) (c2 := c - 1) (by rw [List.length_drop]; omega)
          rw [List.length_drop] at this
          exact this⟩
        by_cases hcm : c = 1
        · subst hcm
          go_enter Tryd.func43, Tryd.ntmps43
          go_wp2
          go_ret
          have HS := HS.out
          rw [show subA (some ad) 1 1 = some ad from if_pos rfl, Nat.sub_self, show l.length - 1 = 0 by omega] at HS
          exact ⟨_, _, by rw [E.out.1]; rfl, by rw [E.out.2.1, E.out.2.2]; exact HS, (Off.refl _ _).setA H.out.cell0 (SubA.refl _)⟩
        · have HCM := Aside0.mk hcm
          go_enter Tryd.func43, Tryd.ntmps43
          go_wp2
          go_ret
          have HS := HS.out
          rw [show subA (some ad) c 1 = (some ad).map (·.add 1) from if_neg HCM.out] at HS
          exact ⟨_, _, by rw [E.out.1]; rfl, by rw [E.out.2.1, E.out.2.2]; exact HS, (Off.refl _ _).setA H.out.cell0 (fun a h => ⟨ad, rfl, by injection h with h; subst h; rfl⟩)⟩
    · have c1 : decide ((l.length : Int) = 0) = true := decide_eq_true (by omega)
      have HB : Aside0 (byteV l 0 = 0 ∧ byteL l 0 = l ∧ byteE l 0 = 4) := by
        obtain rfl : l = [] := List.eq_nil_of_length_eq_zero (by omega)
        exact ⟨rfl, rfl, rfl⟩
      clear h hb
      go_enter Tryd.func43, Tryd.ntmps43
      go_wp2
      go_ret
      exact ⟨A, c, by rw [HB.out.1]; rfl, by rw [HB.out.2.1, HB.out.2.2]; exact H.out.set1 4, (Off.refl _ _).set _ _⟩
  · have c1 : decide (e = 0) = false := decide_eq_false he
    have c2 : (e == 0) = false := beq_eq_false_iff_ne.2 he
    have HB : Aside0 (byteV l e = 0 ∧ byteL l e = l ∧ byteE l e = e) := ⟨if_neg he, if_neg he, by unfold byteE; rw [if_neg (fun k => he k.1), failE_ne he]⟩
    clear h hb he
    go_enter Tryd.func43, Tryd.ntmps43
    go_wp2
    go_ret
    exact ⟨A, c, by rw [HB.out.1]; rfl, by rw [HB.out.2.1, HB.out.2.2]; exact H.out, Off.refl _ _⟩
theorem rnumber_calls (w : World) (g : Nat) (A : Option Addr) (l : List Int) (c : Nat) (e : Int) (h : RdR w g A l c e) (hb : ∀ x ∈ l, 0 ≤ x ∧ x < 256) :
    Calls Tryd.prog 70 #[.pointer (some ⟨g, 0, none⟩)] w fun r w' => ∃ A' c', r = .returned (.int .i64 (rdN l e).1) ∧ RdR w' g A' (rdN l e).2.1 c' (rdN l e).2.2 ∧ Off g w w' := by
  have HR0 := Aside0.mk h
  have h0 := h.cell0
  have f0 := h.frozen 0
  have h1 := h.cell1
  have f1 := h.frozen 1
  have hmax := h.max
  have hlc := h.2.2
  by_cases he : e = 0
  · subst he
    obtain ⟨v, u, er, hE, hu, hv, hR⟩ := take_f l hb
    have HE := Aside0.mk hE
    have HB := Aside0.mk hb
    clear hE hb h
    rcases hR with ⟨rfl, hR⟩ | ⟨her, rfl, rfl, hR⟩
    · by_cases hbig : 9223372036854775807 < v
      · have c1 : decide ((v : Int) > 9223372036854775807) = true := decide_eq_true (by omega)
        have E : Aside0 (rdN l 0 = (0, l, 2)) := ⟨by unfold rdN; rw [hR, if_pos hbig]; rfl⟩
        clear hR
        go_enter Tryd.func70, Tryd.ntmps70
        go_wp2_with (first | (go_at_call 69; refine (take_calls _ A l c HR0.out.C hlc _ _ _ HE.out).mono ?_; rintro r w1 ⟨rfl, hd⟩; have HX := Aside0.mk (HR0.out.drawn hd); have HOX := Aside0.mk (off_drawn (g := g) hd); have x0 := HX.out.cell0; have xf0 := HX.out.frozen 0; have x1 := HX.out.cell1; have xf1 := HX.out.frozen 1; clear hd))
        go_ret
        exact ⟨A, c, by rw [E.out]; rfl, by rw [E.out]; exact HX.out.set1 2, HOX.out.set _ _⟩
      · have c1 : decide ((v : Int) > 9223372036854775807) = false := decide_eq_false (by omega)
        have E : Aside0 (rdN l 0 = (v, l.drop u, 0)) := ⟨by unfold rdN; rw [hR, if_neg hbig]⟩
        have ew : IntKind.i64.wrap (v : Int) = (v : Int) := by rw [IntKind.wrap_i64]; omega
        clear hR
        have HS : Aside0 (∀ W1, RdR W1 g A l c 0 → RdR (W1.setCell ⟨g, 0, none⟩ (.slice (subA A c u) (l.length - u) (c - u))) g (subA A c u) (l.drop u) (c - u) 0) := ⟨fun W1 h => by
          have := h.set0 (C_sub h.C hu hlc) (c2 := c - u) (by rw [List.length_drop]; omega)
          rw [List.length_drop] at this
          exact this⟩
        by_cases hcu : c = u
        · subst hcu
          go_enter Tryd.func70, Tryd.ntmps70
          go_wp2_with (first | (go_at_call 69; refine (take_calls _ A l c HR0.out.C hlc _ _ _ HE.out).mono ?_; rintro r w1 ⟨rfl, hd⟩; have HX := Aside0.mk (HR0.out.drawn hd); have HOX := Aside0.mk (off_drawn (g := g) hd); have x0 := HX.out.cell0; have xf0 := HX.out.frozen 0; have x1 := HX.out.cell1; have xf1 := HX.out.frozen 1; clear hd))
          go_ret
          have HS := HS.out _ HX.out
          rw [show subA A c c = A from if_pos rfl, Nat.sub_self, show l.length - c = 0 by omega] at HS
          exact ⟨_, _, by rw [E.out]; first | rfl | (simp only [wrap64]; rw [← IntKind.wrap_i64, ew]), by rw [E.out]; exact HS, HOX.out.setA HR0.out.cell0 (SubA.refl _)⟩
        · have HCU := Aside0.mk hcu
          go_enter Tryd.func70, Tryd.ntmps70
          go_wp2_with (first | (go_at_call 69; refine (take_calls _ A l c HR0.out.C hlc _ _ _ HE.out).mono ?_; rintro r w1 ⟨rfl, hd⟩; have HX := Aside0.mk (HR0.out.drawn hd); have HOX := Aside0.mk (off_drawn (g := g) hd); have x0 := HX.out.cell0; have xf0 := HX.out.frozen 0; have x1 := HX.out.cell1; have xf1 := HX.out.frozen 1; clear hd))
          go_ret
          have HS := HS.out _ HX.out
          rw [show subA A c u = A.map (·.add u) from if_neg HCU.out] at HS
          exact ⟨_, _, by rw [E.out]; first | rfl | (simp only [wrap64]; rw [← IntKind.wrap_i64, ew]), by rw [E.out]; exact HS, HOX.out.setA HR0.out.cell0 (SubA.map _ _)⟩
    · have c1 : decide (er = 0) = false := decide_eq_false her
      have c2 : (er == 0) = false := beq_eq_false_iff_ne.2 her
      have E : Aside0 (rdN l 0 = (0, l, er)) := ⟨by unfold rdN; rw [hR, if_neg (by simp)]⟩
      clear hR her
      go_enter Tryd.func70, Tryd.ntmps70
      go_wp2_with (first | (go_at_call 69; refine (take_calls _ A l c HR0.out.C hlc _ _ _ HE.out).mono ?_; rintro r w1 ⟨rfl, hd⟩; have HX := Aside0.mk (HR0.out.drawn hd); have HOX := Aside0.mk (off_drawn (g := g) hd); have x0 := HX.out.cell0; have xf0 := HX.out.frozen 0; have x1 := HX.out.cell1; have xf1 := HX.out.frozen 1; clear hd))
      go_ret
      exact ⟨A, c, by rw [E.out]; rfl, by rw [E.out]; exact HX.out.set1 er, HOX.out.set _ _⟩
  · have c1 : decide (e = 0) = false := decide_eq_false he
    have c2 : (e == 0) = false := beq_eq_false_iff_ne.2 he
    have HE := Aside0.mk (rdN_err (l := l) he)
    clear h hb he
    go_enter Tryd.func70, Tryd.ntmps70
    go_wp2
    go_ret
    exact ⟨A, c, by rw [HE.out]; rfl, by rw [HE.out]; exact HR0.out, Off.refl _ _⟩
theorem unz0 : unz 0 = 0 := by decide
theorem rsigned_calls (w : World) (g : Nat) (A : Option Addr) (l : List Int) (c : Nat) (e : Int) (h : RdR w g A l c e) (hb : ∀ x ∈ l, 0 ≤ x ∧ x < 256) :
    Calls Tryd.prog 44 #[.pointer (some ⟨g, 0, none⟩)] w fun r w' => ∃ A' c', r = .returned (.int .i64 (unz (rdD l e).1)) ∧ RdR w' g A' (rdD l e).2.1 c' (rdD l e).2.2 ∧ Off g w w' := by
  have HR0 := Aside0.mk h
  have h0 := h.cell0
  have f0 := h.frozen 0
  have h1 := h.cell1
  have f1 := h.frozen 1
  have hmax := h.max
  have hlc := h.2.2
  by_cases he : e = 0
  · subst he
    obtain ⟨v, u, er, hE, hu, hv, hR⟩ := take_f l hb
    have HE := Aside0.mk hE
    have HB := Aside0.mk hb
    clear hE hb h
    rcases hR with ⟨rfl, hR⟩ | ⟨her, rfl, rfl, hR⟩
    · have E := Aside0.mk hR
      clear hR
      by_cases hp : v % 2 = 0
      · have c1 : ((v : Int) % 2 == 0) = true := beq_iff_eq.2 (by omega)
        have EU : Aside0 (unz v = ((v / 2 : Nat) : Int)) := ⟨if_pos hp⟩
        clear hp
        have HS : Aside0 (∀ W1, RdR W1 g A l c 0 → RdR (W1.setCell ⟨g, 0, none⟩ (.slice (subA A c u) (l.length - u) (c - u))) g (subA A c u) (l.drop u) (c - u) 0) := ⟨fun W1 h => by
          have := h.set0 (C_sub h.C hu hlc) (c2 := c - u) (by rw [List.length_drop]; omega)
          rw [List.length_drop] at this
          exact this⟩
        by_cases hcu : c = u
        · subst hcu
          go_enter Tryd.func44, Tryd.ntmps44
          go_wp2_with (first | (go_at_call 69; refine (take_calls _ A l c HR0.out.C hlc _ _ _ HE.out).mono ?_; rintro r w1 ⟨rfl, hd⟩; have HX := Aside0.mk (HR0.out.drawn hd); have HOX := Aside0.mk (off_drawn (g := g) hd); have x0 := HX.out.cell0; have xf0 := HX.out.frozen 0; have x1 := HX.out.cell1; have xf1 := HX.out.frozen 1; clear hd))
          go_ret
          have HS := HS.out _ HX.out
          rw [show subA A c c = A from if_pos rfl, Nat.sub_self, show l.length - c = 0 by omega] at HS
          exact ⟨_, _, by rw [E.out]; show _ = Ending.returned (Value.int .i64 (unz v)); rw [EU.out, show ((v / 2 : Nat) : Int) = (v : Int) / 2 by omega]; rfl, by rw [E.out]; exact HS, HOX.out.setA HR0.out.cell0 (SubA.refl _)⟩
        · have HCU := Aside0.mk hcu
          go_enter Tryd.func44, Tryd.ntmps44
          go_wp2_with (first | (go_at_call 69; refine (take_calls _ A l c HR0.out.C hlc _ _ _ HE.out).mono ?_; rintro r w1 ⟨rfl, hd⟩; have HX := Aside0.mk (HR0.out.drawn hd); have HOX := Aside0.mk (off_drawn (g := g) hd); have x0 := HX.out.cell0; have xf0 := HX.out.frozen 0; have x1 := HX.out.cell1; have xf1 := HX.out.frozen 1; clear hd))
          go_ret
          have HS := HS.out _ HX.out
          rw [show subA A c u = A.map (·.add u) from if_neg HCU.out] at HS
          exact ⟨_, _, by rw [E.out]; show _ = Ending.returned (Value.int .i64 (unz v)); rw [EU.out, show ((v / 2 : Nat) : Int) = (v : Int) / 2 by omega]; rfl, by rw [E.out]; exact HS, HOX.out.setA HR0.out.cell0 (SubA.map _ _)⟩
      · have c1 : ((v : Int) % 2 == 0) = false := beq_eq_false_iff_ne.2 (by omega)
        have EU : Aside0 (unz v = -((v / 2 : Nat) : Int) - 1) := ⟨if_neg hp⟩
        clear hp
        have HS : Aside0 (∀ W1, RdR W1 g A l c 0 → RdR (W1.setCell ⟨g, 0, none⟩ (.slice (subA A c u) (l.length - u) (c - u))) g (subA A c u) (l.drop u) (c - u) 0) := ⟨fun W1 h => by
          have := h.set0 (C_sub h.C hu hlc) (c2 := c - u) (by rw [List.length_drop]; omega)
          rw [List.length_drop] at this
          exact this⟩
        by_cases hcu : c = u
        · subst hcu
          go_enter Tryd.func44, Tryd.ntmps44
          go_wp2_with (first | (go_at_call 69; refine (take_calls _ A l c HR0.out.C hlc _ _ _ HE.out).mono ?_; rintro r w1 ⟨rfl, hd⟩; have HX := Aside0.mk (HR0.out.drawn hd); have HOX := Aside0.mk (off_drawn (g := g) hd); have x0 := HX.out.cell0; have xf0 := HX.out.frozen 0; have x1 := HX.out.cell1; have xf1 := HX.out.frozen 1; clear hd))
          go_ret
          have HS := HS.out _ HX.out
          rw [show subA A c c = A from if_pos rfl, Nat.sub_self, show l.length - c = 0 by omega] at HS
          exact ⟨_, _, by rw [E.out]; show _ = Ending.returned (Value.int .i64 (unz v)); rw [EU.out, show ((v / 2 : Nat) : Int) = (v : Int) / 2 by omega]; rfl, by rw [E.out]; exact HS, HOX.out.setA HR0.out.cell0 (SubA.refl _)⟩
        · have HCU := Aside0.mk hcu
          go_enter Tryd.func44, Tryd.ntmps44
          go_wp2_with (first | (go_at_call 69; refine (take_calls _ A l c HR0.out.C hlc _ _ _ HE.out).mono ?_; rintro r w1 ⟨rfl, hd⟩; have HX := Aside0.mk (HR0.out.drawn hd); have HOX := Aside0.mk (off_drawn (g := g) hd); have x0 := HX.out.cell0; have xf0 := HX.out.frozen 0; have x1 := HX.out.cell1; have xf1 := HX.out.frozen 1; clear hd))
          go_ret
          have HS := HS.out _ HX.out
          rw [show subA A c u = A.map (·.add u) from if_neg HCU.out] at HS
          exact ⟨_, _, by rw [E.out]; show _ = Ending.returned (Value.int .i64 (unz v)); rw [EU.out, show ((v / 2 : Nat) : Int) = (v : Int) / 2 by omega]; rfl, by rw [E.out]; exact HS, HOX.out.setA HR0.out.cell0 (SubA.map _ _)⟩
    · have c1 : decide (er = 0) = false := decide_eq_false her
      have c2 : (er == 0) = false := beq_eq_false_iff_ne.2 her
      have E := Aside0.mk hR
      clear hR her
      go_enter Tryd.func44, Tryd.ntmps44
      go_wp2_with (first | (go_at_call 69; refine (take_calls _ A l c HR0.out.C hlc _ _ _ HE.out).mono ?_; rintro r w1 ⟨rfl, hd⟩; have HX := Aside0.mk (HR0.out.drawn hd); have HOX := Aside0.mk (off_drawn (g := g) hd); have x0 := HX.out.cell0; have xf0 := HX.out.frozen 0; have x1 := HX.out.cell1; have xf1 := HX.out.frozen 1; clear hd))
      go_ret
      exact ⟨A, c, by rw [E.out]; show _ = Ending.returned (Value.int .i64 (unz 0)); rw [unz0]; rfl, by rw [E.out]; exact HX.out.set1 er, HOX.out.set _ _⟩
  · have c1 : decide (e = 0) = false := decide_eq_false he
    have c2 : (e == 0) = false := beq_eq_false_iff_ne.2 he
    have HE := Aside0.mk (rdD_err (l := l) he)
    clear h hb he
    go_enter Tryd.func44, Tryd.ntmps44
    go_wp2
    go_ret
    exact ⟨A, c, by rw [HE.out]; show _ = Ending.returned (Value.int .i64 (unz 0)); rw [unz0]; rfl, by rw [HE.out]; exact HR0.out, Off.refl _ _⟩
theorem rdN_fail (l : List Int) (e : Int) (h : (rdN l e).2.2 ≠ 0) : (rdN l e).1 = 0 ∧ (rdN l e).2.1 = l := by
  unfold rdN at h ⊢
  split
  · exact ⟨rfl, rfl⟩
  · rename_i hn
    rw [if_neg hn] at h
    unfold rdD fin at h ⊢
    by_cases he : e = 0
    · simp only [he, ne_eq, not_true_eq_false, if_false] at h ⊢
      by_cases h2 : (dg 10 0 l).2.2 = 0
      · rw [if_pos h2] at h
        exact absurd h2 h
      · rw [if_neg h2]
        exact ⟨rfl, rfl⟩
    · rw [if_pos he]
      exact ⟨rfl, rfl⟩
theorem rtext_calls (w : World) (g : Nat) (A : Option Addr) (l : List Int) (c : Nat) (e most : Int) (h : RdR w g A l c e) (hb : ∀ x ∈ l, 0 ≤ x ∧ x < 256) :
    Calls Tryd.prog 45 #[.pointer (some ⟨g, 0, none⟩), .int .i64 most] w fun r w' => ∃ A' c', r = .returned (.string (strOfNums (rdT most l e).1)) ∧ RdR w' g A' (rdT most l e).2.1 c' (rdT most l e).2.2 ∧ Off g w w' := by
  have HR0 := Aside0.mk h
  have HB := Aside0.mk hb
  have h0 := h.cell0
  have f0 := h.frozen 0
  have hcc0 := h.2.2
  obtain ⟨⟨n, l1, e1⟩, hr⟩ : ∃ r, rdN l e = r := ⟨_, rfl⟩
  have ER := Aside0.mk hr
  have hs0 : strOfNums [] = ⟨#[]⟩ := rfl
  clear h hb hr
  by_cases he : e1 = 0
  · subst he
    by_cases hm : most < (n : Int)
    · have c1 : decide ((n : Int) > most) = true := decide_eq_true (by omega)
      have E : Aside0 (rdT most l e = ([], l, 2)) := ⟨by unfold rdT; rw [ER.out, if_neg (by simp), if_pos hm]⟩
      go_enter Tryd.func45, Tryd.ntmps45
      go_wp2_with (first | (go_at_call 70; refine (rnumber_calls _ g A l c e HR0.out HB.out).mono ?_; rintro r w1 ⟨A', c', rfl, hr, ho⟩; rw [ER.out] at hr; rw [ER.out]; have HX := Aside0.mk hr; have HOX := Aside0.mk ho; have HCX := Aside0.mk (C_offR HR0.out.1 HR0.out.C ho); have x0 := hr.cell0; have xf0 := hr.frozen 0; have x1 := hr.cell1; have xf1 := hr.frozen 1; have hlc1 := hr.2.2; have hmax1 := hr.max; clear hr ho))
      go_ret
      exact ⟨A, c, by rw [E.out]; rfl, by rw [E.out]; exact (HX.out.set1 2).set0 (C_offR HX.out.1 HCX.out ((Off.refl _ _).set 1 _)) hcc0, (HOX.out.set _ _).setA HR0.out.cell0 (SubA.refl _)⟩
    · have c1 : decide ((n : Int) > most) = false := decide_eq_false (by omega)
      by_cases hl : l1.length < n
      · have c3 : decide ((n : Int) > (l1.length : Int)) = true := decide_eq_true (by omega)
        have E : Aside0 (rdT most l e = ([], l, 4)) := ⟨by unfold rdT; rw [ER.out, if_neg (by simp), if_neg hm, if_pos hl]⟩
        go_enter Tryd.func45, Tryd.ntmps45
        go_wp2_with (first | (go_at_call 70; refine (rnumber_calls _ g A l c e HR0.out HB.out).mono ?_; rintro r w1 ⟨A', c', rfl, hr, ho⟩; rw [ER.out] at hr; rw [ER.out]; have HX := Aside0.mk hr; have HOX := Aside0.mk ho; have HCX := Aside0.mk (C_offR HR0.out.1 HR0.out.C ho); have x0 := hr.cell0; have xf0 := hr.frozen 0; have x1 := hr.cell1; have xf1 := hr.frozen 1; have hlc1 := hr.2.2; have hmax1 := hr.max; clear hr ho))
        go_ret
        exact ⟨A, c, by rw [E.out]; rfl, by rw [E.out]; exact (HX.out.set1 4).set0 (C_offR HX.out.1 HCX.out ((Off.refl _ _).set 1 _)) hcc0, (HOX.out.set _ _).setA HR0.out.cell0 (SubA.refl _)⟩
      · have c3 : decide ((n : Int) > (l1.length : Int)) = false := decide_eq_false (by omega)
        have E : Aside0 (rdT most l e = (l1.take n, l1.drop n, 0)) := ⟨by unfold rdT; rw [ER.out, if_neg (by simp), if_neg hm, if_neg hl]⟩
        have hl2 : n ≤ l1.length := by omega
        have HL := Aside0.mk hl2
        clear hl
        have HS : Aside0 (∀ (A1 : Option Addr) (c1 : Nat) (W1 : World), RdR W1 g A1 l1 c1 0 → RdR (W1.setCell ⟨g, 0, none⟩ (.slice (subA A1 c1 n) (l1.length - n) (c1 - n))) g (subA A1 c1 n) (l1.drop n) (c1 - n) 0) := ⟨fun A1 c1 W1 h => by
          have := h.set0 (C_sub h.C hl2 h.2.2) (c2 := c1 - n) (by have := h.2.2; rw [List.length_drop]; omega)
          rw [List.length_drop] at this
          exact this⟩
        go_enter Tryd.func45, Tryd.ntmps45
        go_upto_region 12 with (go_at_call 70; refine (rnumber_calls _ g A l c e HR0.out HB.out).mono ?_; rintro r w1 ⟨A', c', rfl, hr, ho⟩; rw [ER.out] at hr; rw [ER.out]; have HX := Aside0.mk hr; have HOX := Aside0.mk ho; have HCX := Aside0.mk (C_offR HR0.out.1 HR0.out.C ho); have x0 := hr.cell0; have xf0 := hr.frozen 0; have x1 := hr.cell1; have xf1 := hr.frozen 1; have hlc1 := hr.2.2; have hmax1 := hr.max; clear hr ho)
        have hcs := conv_string (take_len (Kd.C_take HX.out.C HL.out) HL.out) c'
        by_cases hcu : c' = n
        · subst hcu
          go_wp2
          go_ret
          have HS := HS.out _ _ _ HX.out
          rw [show subA A' c' c' = A' from if_pos rfl, Nat.sub_self, show l1.length - c' = 0 by omega] at HS
          exact ⟨_, _, by rw [E.out]; rfl, by rw [E.out]; exact HS, HOX.out.setA HR0.out.cell0 (HOX.out.sub HR0.out.cell0 HX.out.cell0 HR0.out.lt)⟩
        · have HCU := Aside0.mk hcu
          go_wp2
          go_ret
          have HS := HS.out _ _ _ HX.out
          rw [show subA A' c' n = A'.map (·.add n) from if_neg HCU.out] at HS
          exact ⟨_, _, by rw [E.out]; rfl, by rw [E.out]; exact HS, HOX.out.setA HR0.out.cell0 ((HOX.out.sub HR0.out.cell0 HX.out.cell0 HR0.out.lt).trans (SubA.map _ _))⟩
  · have c1 : (e1 == 0) = false := beq_eq_false_iff_ne.2 he
    have c2 : decide (e1 = 0) = false := decide_eq_false he
    have hn : n = 0 ∧ l1 = l := by
      have := rdN_fail l e
      rw [ER.out] at this
      exact this he
    obtain ⟨rfl, rfl⟩ := hn
    have E : Aside0 (rdT most l1 e = ([], l1, e1)) := ⟨by unfold rdT; rw [ER.out, if_pos he]⟩
    clear he
    go_enter Tryd.func45, Tryd.ntmps45
    go_wp2_with (first | (go_at_call 70; refine (rnumber_calls _ g A l1 c e HR0.out HB.out).mono ?_; rintro r w1 ⟨A', c', rfl, hr, ho⟩; rw [ER.out] at hr; rw [ER.out]; have HX := Aside0.mk hr; have HOX := Aside0.mk ho; have HCX := Aside0.mk (C_offR HR0.out.1 HR0.out.C ho); have x0 := hr.cell0; have xf0 := hr.frozen 0; have x1 := hr.cell1; have xf1 := hr.frozen 1; have hlc1 := hr.2.2; have hmax1 := hr.max; clear hr ho))
    go_ret
    exact ⟨A', c', by rw [E.out]; rfl, by rw [E.out]; exact HX.out, HOX.out⟩
end Go.Proofs.YtaddlkokencbkaaDoor.RdR
