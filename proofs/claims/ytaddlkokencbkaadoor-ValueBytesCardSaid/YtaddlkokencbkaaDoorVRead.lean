/- value.Read, by hand: what was written of a value that may be is read as it was. -/
import Derived.Test.YtaddlkokencbkaaDoorRdP
import Derived.Test.YtaddlkokencbkaaDoorMay3
import Derived.Test.YtaddlkokencbkaaDoorVOrd
namespace Go.Proofs.YtaddlkokencbkaaDoor.VRead
open Go.RowKit Go.Proofs.YtaddlkokencbkaaDoorW.PrintWords Go.Proofs.YtaddlkokencbkaaDoorW.PrintLast Go.Proofs.YtaddlkokencbkaaDoorW.PrintMore Go.Proofs.YtaddlkokencbkaaDoor.Exact Go.Proofs.YtaddlkokencbkaaDoor.Rd Go.Proofs.YtaddlkokencbkaaDoor.RdN Go.Proofs.YtaddlkokencbkaaDoor.Shelf Go.Proofs.YtaddlkokencbkaaDoor.May Go.Proofs.YtaddlkokencbkaaDoor.OpenV Go.Proofs.YtaddlkokencbkaaDoor.VOrd
set_option linter.unusedVariables false
set_option linter.unusedSimpArgs false
abbrev blkV (k n : Int) (t : ByteArray) : Obj := .cells #[.int .i64 k, .int .i64 n, .string t] 51
/-- A value's bytes. -/
def wvB (k n : Int) (t : ByteArray) : List Int := k :: (if k = 1 ∨ k = 2 then digs (Lib.zigzag n) else if k = 3 ∨ k = 4 then digs t.size ++ bytesOf t else [])
theorem Off.far {g : Nat} {w W : World} (h : Off g w W) {p : Addr} (hp : w.heap.size ≤ p.block) (u : Value) : Off g w (W.setCell p u) := ⟨h.os, h.tape, h.output, keep_far h.keep hp u⟩
theorem Off.alloc {g : Nat} {w W : World} (h : Off g w W) (o : Obj) : Off g w (W.alloc o) := ⟨h.os, h.tape, h.output, keep_alloc h.keep o⟩
theorem Off.of_below {w W : World} (h : Below w.heap.size w W) (g : Nat) : Off g w W := ⟨h.os, h.tape, h.output, KeepBut.of_below h g none⟩
theorem C_apartV {W : World} {p n : Nat} {a b : Int} {t : ByteArray} {xs : List Int} (hb : W.heap[p]? = some (blkV a b t)) {B : Option Addr} (h : Kd.C (Kd.int .u8) W B n xs) : ∀ ad, B = some ad → 0 < n → ad.block ≠ p := by
  rintro ad rfl hn he
  obtain ⟨ad2, cs, e2, hl, hk, hc⟩ := Kd.C_get h 0 0 (by omega) (by omega)
  injection e2 with e2
  subst e2
  match cs, hl with
  | [u], _ =>
    have h2 := hc 0 u rfl
    have h3 : u = .int .u8 (xs.getD 0 0) := by
      have := hk
      simpa [Kd.int, Kd.scalar] using this
    simp only [World.cell?, Addr.add] at h2
    simp at h2
    rw [he, hb] at h2
    simp at h2
    obtain ⟨_, h2⟩ := h2
    rw [h3] at h2
    rcases ad with ⟨b, o, s⟩
    match o, h2 with
    | 0, h2 => simp at h2
    | 1, h2 => simp at h2
    | 2, h2 => simp at h2
    | (k + 3), h2 => simp at h2
theorem Rd.setV {W : World} {g p c : Nat} {A : Option Addr} {l : List Int} {e a b : Int} {t : ByteArray} (h : Rd W g A l c e) (hb : W.heap[p]? = some (blkV a b t)) (hne : g ≠ p) (j : Nat) (u : Value) : Rd (W.setCell ⟨p, j, none⟩ u) g A l c e :=
  ⟨blk_far h.1 hne u, Kd.C_keep (d := (0 : Int)) h.2.1 ((KeepBut.refl W p none).set_ j u) (C_apartV hb h.2.1), h.2.2⟩
/-- The reader, and two values in memory. -/
structure MidR (w : World) (g g2 g5 : Nat) (k n : Int) (t : ByteArray) (A : Option Addr) (l : List Int) (c : Nat) (wx : World) : Prop where
  rd : Rd wx g A l c 0
  b2 : wx.heap[g2]? = some (blkV 0 0 ⟨#[]⟩)
  b5 : wx.heap[g5]? = some (blkV k n t)
  off : Off g w wx
  h2 : w.heap.size ≤ g2
  h5 : w.heap.size ≤ g5
  ne : g2 ≠ g5
  lt : g < w.heap.size
theorem MidR.num {w : World} {g g2 g5 : Nat} {k n : Int} {t : ByteArray} {A : Option Addr} {l : List Int} {c : Nat} {wx : World} (h : MidR w g g2 g5 k n t A l c wx) (n' : Int) : MidR w g g2 g5 k n' t A l c (wx.setCell ⟨g5, 1, none⟩ (.int .i64 n')) :=
  ⟨Rd.setV h.rd h.b5 (by have := h.lt; have := h.h5; omega) 1 _, blk_far h.b2 h.ne _, blk_put h.b5 1 _ rfl, Off.far h.off h.h5 _, h.h2, h.h5, h.ne, h.lt⟩
theorem MidR.text {w : World} {g g2 g5 : Nat} {k n : Int} {t : ByteArray} {A : Option Addr} {l : List Int} {c : Nat} {wx : World} (h : MidR w g g2 g5 k n t A l c wx) (t' : ByteArray) : MidR w g g2 g5 k n t' A l c (wx.setCell ⟨g5, 2, none⟩ (.string t')) :=
  ⟨Rd.setV h.rd h.b5 (by have := h.lt; have := h.h5; omega) 2 _, blk_far h.b2 h.ne _, blk_put h.b5 2 _ rfl, Off.far h.off h.h5 _, h.h2, h.h5, h.ne, h.lt⟩
theorem MidR.read {w : World} {g g2 g5 : Nat} {k n : Int} {t : ByteArray} {A A' : Option Addr} {l l' : List Int} {c c' : Nat} {wx wy : World} (h : MidR w g g2 g5 k n t A l c wx) (hr : Rd wy g A' l' c' 0) (ho : Off g wx wy) : MidR w g g2 g5 k n t A' l' c' wy :=
  ⟨hr, ho.keep.blk h.b2 (by have := h.lt; have := h.h2; omega) (by simp), ho.keep.blk h.b5 (by have := h.lt; have := h.h5; omega) (by simp), h.off.trans ho, h.h2, h.h5, h.ne, h.lt⟩
theorem MidR.below {w : World} {g g2 g5 : Nat} {k n : Int} {t : ByteArray} {A : Option Addr} {l : List Int} {c : Nat} {wx wy : World} (h : MidR w g g2 g5 k n t A l c wx) (hb : Below wx.heap.size wx wy) : MidR w g g2 g5 k n t A l c wy :=
  h.read (h.rd.below hb) (Off.of_below hb g)
/-- The result is stored. -/
theorem MidR.done {w : World} {g g2 g5 : Nat} {k n : Int} {t : ByteArray} {A : Option Addr} {l : List Int} {c : Nat} {wx : World} (h : MidR w g g2 g5 k n t A l c wx) :
    Rd (((wx.setCell ⟨g2, 0, none⟩ (.int .i64 k)).setCell ⟨g2, 1, none⟩ (.int .i64 n)).setCell ⟨g2, 2, none⟩ (.string t)) g A l c 0 ∧ Off g w (((wx.setCell ⟨g2, 0, none⟩ (.int .i64 k)).setCell ⟨g2, 1, none⟩ (.int .i64 n)).setCell ⟨g2, 2, none⟩ (.string t)) ∧
      (((wx.setCell ⟨g2, 0, none⟩ (.int .i64 k)).setCell ⟨g2, 1, none⟩ (.int .i64 n)).setCell ⟨g2, 2, none⟩ (.string t)).heap[g2]? = some (blkV k n t) := by
  have hne : g ≠ g2 := by have := h.lt; have := h.h2; omega
  have e1 : (wx.setCell ⟨g2, 0, none⟩ (.int .i64 k)).heap[g2]? = some (blkV k 0 ⟨#[]⟩) := blk_put h.b2 0 _ rfl
  have e2 : ((wx.setCell ⟨g2, 0, none⟩ (.int .i64 k)).setCell ⟨g2, 1, none⟩ (.int .i64 n)).heap[g2]? = some (blkV k n ⟨#[]⟩) := blk_put e1 1 _ rfl
  have r1 := Rd.setV h.rd h.b2 hne 0 (.int .i64 k)
  have r2 := Rd.setV r1 e1 hne 1 (.int .i64 n)
  have r3 := Rd.setV r2 e2 hne 2 (.string t)
  exact ⟨r3, Off.far (Off.far (Off.far h.off h.h2 _) h.h2 _) h.h2 _, blk_put e2 2 _ rfl⟩
theorem Off.tabs {w wx : World} {g : Nat} (h : Off g w wx) (ht : Tabs w) (hg : g ≠ Tryd.laysValid_ren.g 3 ∧ g ≠ Tryd.laysValid_ren.g 4) : Tabs wx :=
  ⟨fun c hc => keep_cell h.keep (ht.1 c hc) (fun e => hg.1 e.symm), fun i hi => ⟨keep_cell h.keep (ht.2 i hi).1 (fun e => hg.2 e.symm), keep_cell h.keep (ht.2 i hi).2 (fun e => hg.2 e.symm)⟩⟩
theorem byteV_cons (k : Int) (l : List Int) : byteV (k :: l) 0 = k := rfl
theorem byteL_cons (k : Int) (l : List Int) : byteL (k :: l) 0 = l := rfl
theorem byteE_cons (k : Int) (l : List Int) : byteE (k :: l) 0 = 0 := by unfold byteE; rw [if_pos ⟨rfl, by simp⟩]
theorem byte_c (w : World) (g : Nat) (A : Option Addr) (k : Int) (l : List Int) (c : Nat) (h : Rd w g A (k :: l) c 0) (hb : ∀ x ∈ k :: l, 0 ≤ x ∧ x < 256) :
    Calls Tryd.prog 63 #[.pointer (some ⟨g, 0, none⟩)] w fun r w' => ∃ A' c', r = .returned (.int .i64 k) ∧ Rd w' g A' l c' 0 ∧ Off g w w' := by
  have := byte_calls w g A (k :: l) c 0 h hb
  rw [byteV_cons, byteL_cons, byteE_cons] at this
  exact this
theorem signed_c (w : World) (g : Nat) (A : Option Addr) (n : Int) (l l' : List Int) (c : Nat) (h : Rd w g A l c 0) (hl : l = digs (Lib.zigzag n) ++ l') (hb : ∀ x ∈ l, 0 ≤ x ∧ x < 256) (hn : RangeI n) :
    Calls Tryd.prog 64 #[.pointer (some ⟨g, 0, none⟩)] w fun r w' => ∃ A' c', r = .returned (.int .i64 n) ∧ Rd w' g A' l' c' 0 ∧ Off g w w' := by
  subst hl
  have := signed_calls w g A _ c 0 h hb
  have hz := Lib.zigzag_lt hn.1 hn.2
  rw [rdD_digs (by omega), unz_zig] at this
  exact this
theorem text_c (w : World) (g : Nat) (A : Option Addr) (t : ByteArray) (l l' : List Int) (c : Nat) (h : Rd w g A l c 0) (hl : l = digs t.size ++ (bytesOf t ++ l')) (hb : ∀ x ∈ l, 0 ≤ x ∧ x < 256) (ht : t.size ≤ 4096) :
    Calls Tryd.prog 65 #[.pointer (some ⟨g, 0, none⟩), .int .i64 9223372036854775807] w fun r w' => ∃ A' c', r = .returned (.string t) ∧ Rd w' g A' l' c' 0 ∧ Off g w w' := by
  subst hl
  have hs : (bytesOf t).length = t.size := bytesOf_length t
  have := text_calls w g A _ c 0 9223372036854775807 h hb
  rw [← hs, rdT_text (by omega) (by omega), Plain.ofNums_bytesOf] at this
  exact this
theorem errno_c (w : World) (g : Nat) (A : Option Addr) (l : List Int) (c : Nat) (h : Rd w g A l c 0) :
    Calls Tryd.prog 66 #[.pointer (some ⟨g, 0, none⟩)] w fun r w' => r = .returned (.int .i64 0) ∧ w = w' := by
  refine (errno_calls w g A l c 0 h).mono ?_
  rintro r w' ⟨h1, h2⟩
  exact ⟨h1, by first | exact h2 | exact h2.symm⟩
set_option maxHeartbeats 4000000 in
set_option maxRecDepth 100000 in
theorem vread_calls (k n : Int) (t : ByteArray) (hm : mayB k n t = true) (hn : RangeI n) (w : World) (g : Nat) (A : Option Addr) (l rest : List Int) (c : Nat) (h : Rd w g A l c 0) (hl : l = wvB k n t ++ rest) (hb : ∀ x ∈ l, 0 ≤ x ∧ x < 256) (hT : Tabs w)
    (hg : g ≠ Tryd.laysValid_ren.g 3 ∧ g ≠ Tryd.laysValid_ren.g 4) :
    Calls Tryd.prog 38 #[.pointer (some ⟨g, 0, none⟩)] w fun e w' => ∃ A' c', e = .returned (.tuple #[.agg #[.int .i64 k, .int .i64 n, .string t], .bool true]) ∧ Rd w' g A' rest c' 0 ∧ Off g w w' := by
  have hk := may_kind hm
  obtain ⟨l1, hl1, hl2⟩ : ∃ l1, l = k :: l1 ∧ l1 = (if k = 1 ∨ k = 2 then digs (Lib.zigzag n) else if k = 3 ∨ k = 4 then digs t.size ++ bytesOf t else []) ++ rest := ⟨_, by rw [hl]; rfl, rfl⟩
  subst hl1
  have hb1 : ∀ x ∈ l1, 0 ≤ x ∧ x < 256 := fun x hx => hb x (List.mem_cons_of_mem _ hx)
  have HRD := Aside0.mk h
  have HB := Aside0.mk hb
  have HB1 := Aside0.mk hb1
  have HL := Aside0.mk hl2
  have HT := Aside0.mk hT
  have HN := Aside0.mk hn
  have HM := Aside0.mk hm
  have HG := Aside0.mk hg
  have HK := Aside0.mk hk
  clear h hl hb hb1 hl2 hT hn hm hg hk
  go_enter Tryd.func38, Tryd.ntmps38
  go_upto_region 2 with (first | (go_at_call 63; refine (byte_c _ g A k l1 c (HRD.out.below (below_alloc (Below.refl _ _) _)) HB.out).mono ?_; rintro e w1 ⟨A1, c1, rfl, hr1, ho1⟩; have HR1 := Aside0.mk hr1; have HO1 := Aside0.mk ho1; clear hr1 ho1))
  have HOW : Aside0 (Off g w w1) := ⟨(Off.of_below (below_alloc (Below.refl _ _) (blkV 0 0 ⟨#[]⟩)) g).trans HO1.out⟩
  have hlt := HRD.out.lt
  have e2 : w1.heap[w.heap.size]? = some (blkV 0 0 ⟨#[]⟩) := HO1.out.keep.blk (blk_new w (blkV 0 0 ⟨#[]⟩)) (by omega) (by simp)
  have hsz : w.heap.size + 1 ≤ w1.heap.size := by have := HO1.out.keep.1; simp at this; omega
  have MID : Aside0 (MidR w g w.heap.size w1.heap.size k 0 ⟨#[]⟩ A1 l1 c1 (w1.alloc (blkV k 0 ⟨#[]⟩))) := ⟨HR1.out.below (below_alloc (Below.refl _ _) _), blk_alloc e2 _, blk_new _ _, Off.alloc HOW.out _, Nat.le_refl _, by omega, by omega, hlt⟩
  clear e2 hsz hlt
  change Code.wp _ _ _ _ (w1.alloc (blkV k 0 ⟨#[]⟩))
  generalize w1.alloc (blkV k 0 ⟨#[]⟩) = W3 at MID ⊢
  generalize w1.heap.size = g5 at MID ⊢
  generalize w.heap.size = g2 at MID ⊢
  clear HR1 HO1 HOW
  have m0 := blk_cell MID.out.b5 0
  have m1 := blk_cell MID.out.b5 1
  have m2 := blk_cell MID.out.b5 2
  have f1 := blk_frozen MID.out.b5 1
  have f2 := blk_frozen MID.out.b5 2
  have HSZ : Aside0 (t.size ≤ 4096) := ⟨by have := HK.out; omega⟩
  have hemp : ∀ s : ByteArray, s.size = 0 → s = ⟨#[]⟩ := fun s h => VOrd.bytesOf_inj (by rw [bytesOf_none h]; rfl)
  have HE := Aside0.mk hemp
  clear hemp
  rcases HK.out with ⟨rfl, rfl, hs⟩ | ⟨rfl, _, hs⟩ | ⟨rfl, hs⟩ | ⟨hk, rfl, hs⟩
  · obtain rfl := HE.out t hs
    have HLX : Aside0 (l1 = rest) := ⟨by rw [HL.out]; rfl⟩
    obtain rfl := HLX.out
    have M := MID
    clear HK HL HLX hs
    have q0 := blk_cell M.out.b5 0
    have q1 := blk_cell M.out.b5 1
    have q2 := blk_cell M.out.b5 2
    clear m0 m1 m2 f1 f2
    go_upto_region 9 with fail
    go_wp2_with (first | (go_at_call 66; refine (errno_c _ g A1 l1 c1 M.out.rd).mono ?_; rintro r wz ⟨rfl, rfl⟩) | (go_at_call 31; refine (May3.vmay_calls 0 0 ⟨#[]⟩ true _ (by have := HSZ.out; omega) (Off.tabs M.out.off HT.out HG.out) HM.out).mono ?_; rintro e w6 ⟨rfl, hb6⟩; have M6 := Aside0.mk (M.out.below hb6); clear hb6; have s0 := blk_cell M6.out.b5 0; have s1 := blk_cell M6.out.b5 1; have s2 := blk_cell M6.out.b5 2; have u0 := blk_cell M6.out.b2 0; have u1 := blk_cell M6.out.b2 1; have u2 := blk_cell M6.out.b2 2; have v0 := blk_frozen M6.out.b2 0; have v1 := blk_frozen M6.out.b2 1; have v2 := blk_frozen M6.out.b2 2))
    have D := Aside0.mk M6.out.done
    clear q0 q1 q2 s0 s1 s2 u0 u1 u2 v0 v1 v2
    generalize ((w6.setCell ⟨g2, 0, none⟩ (.int .i64 0)).setCell ⟨g2, 1, none⟩ (.int .i64 0)).setCell ⟨g2, 2, none⟩ (.string ⟨#[]⟩) = W9 at D ⊢
    have z0 := (blk_cell D.out.2.2 0).trans rfl
    have z1 := (blk_cell D.out.2.2 1).trans rfl
    have z2 := (blk_cell D.out.2.2 2).trans rfl
    go_wp2
    refine bodyPost_ret (v := .tuple #[.agg #[.int .i64 0, .int .i64 0, .string ⟨#[]⟩], .bool true]) (by simp [results, Tryd.results38, go_sem, z0, z1, z2]) rfl ⟨A1, c1, rfl, D.out.1, D.out.2.1⟩
  · obtain rfl := HE.out t hs
    have HLX : Aside0 (l1 = digs (Lib.zigzag n) ++ rest) := ⟨by rw [HL.out]; rfl⟩
    clear HK HL hs
    go_upto_region 9 with (go_at_call 64; refine (signed_c _ g A1 n l1 rest c1 MID.out.rd HLX.out HB1.out HN.out).mono ?_; rintro e w4 ⟨A4, c4, rfl, hr4, ho4⟩; have M4 := Aside0.mk (MID.out.read hr4 ho4); clear hr4 ho4; have x1 := blk_frozen M4.out.b5 1; have y1 := blk_cell M4.out.b5 1)
    have M := Aside0.mk (M4.out.num n)
    clear x1 y1 M4
    generalize w4.setCell ⟨g5, 1, none⟩ (.int .i64 n) = W5 at M ⊢
    have q0 := blk_cell M.out.b5 0
    have q1 := blk_cell M.out.b5 1
    have q2 := blk_cell M.out.b5 2
    clear m0 m1 m2 f1 f2
    go_wp2_with (first | (go_at_call 66; refine (errno_c _ g A4 rest c4 M.out.rd).mono ?_; rintro r wz ⟨rfl, rfl⟩) | (go_at_call 31; refine (May3.vmay_calls 1 n ⟨#[]⟩ true _ (by have := HSZ.out; omega) (Off.tabs M.out.off HT.out HG.out) HM.out).mono ?_; rintro e w6 ⟨rfl, hb6⟩; have M6 := Aside0.mk (M.out.below hb6); clear hb6; have s0 := blk_cell M6.out.b5 0; have s1 := blk_cell M6.out.b5 1; have s2 := blk_cell M6.out.b5 2; have u0 := blk_cell M6.out.b2 0; have u1 := blk_cell M6.out.b2 1; have u2 := blk_cell M6.out.b2 2; have v0 := blk_frozen M6.out.b2 0; have v1 := blk_frozen M6.out.b2 1; have v2 := blk_frozen M6.out.b2 2))
    have D := Aside0.mk M6.out.done
    clear q0 q1 q2 s0 s1 s2 u0 u1 u2 v0 v1 v2
    generalize ((w6.setCell ⟨g2, 0, none⟩ (.int .i64 1)).setCell ⟨g2, 1, none⟩ (.int .i64 n)).setCell ⟨g2, 2, none⟩ (.string ⟨#[]⟩) = W9 at D ⊢
    have z0 := (blk_cell D.out.2.2 0).trans rfl
    have z1 := (blk_cell D.out.2.2 1).trans rfl
    have z2 := (blk_cell D.out.2.2 2).trans rfl
    go_wp2
    refine bodyPost_ret (v := .tuple #[.agg #[.int .i64 1, .int .i64 n, .string ⟨#[]⟩], .bool true]) (by simp [results, Tryd.results38, go_sem, z0, z1, z2]) rfl ⟨A4, c4, rfl, D.out.1, D.out.2.1⟩
  · obtain rfl := HE.out t hs
    have HLX : Aside0 (l1 = digs (Lib.zigzag n) ++ rest) := ⟨by rw [HL.out]; rfl⟩
    clear HK HL hs
    go_upto_region 9 with (go_at_call 64; refine (signed_c _ g A1 n l1 rest c1 MID.out.rd HLX.out HB1.out HN.out).mono ?_; rintro e w4 ⟨A4, c4, rfl, hr4, ho4⟩; have M4 := Aside0.mk (MID.out.read hr4 ho4); clear hr4 ho4; have x1 := blk_frozen M4.out.b5 1; have y1 := blk_cell M4.out.b5 1)
    have M := Aside0.mk (M4.out.num n)
    clear x1 y1 M4
    generalize w4.setCell ⟨g5, 1, none⟩ (.int .i64 n) = W5 at M ⊢
    have q0 := blk_cell M.out.b5 0
    have q1 := blk_cell M.out.b5 1
    have q2 := blk_cell M.out.b5 2
    clear m0 m1 m2 f1 f2
    go_wp2_with (first | (go_at_call 66; refine (errno_c _ g A4 rest c4 M.out.rd).mono ?_; rintro r wz ⟨rfl, rfl⟩) | (go_at_call 31; refine (May3.vmay_calls 2 n ⟨#[]⟩ true _ (by have := HSZ.out; omega) (Off.tabs M.out.off HT.out HG.out) HM.out).mono ?_; rintro e w6 ⟨rfl, hb6⟩; have M6 := Aside0.mk (M.out.below hb6); clear hb6; have s0 := blk_cell M6.out.b5 0; have s1 := blk_cell M6.out.b5 1; have s2 := blk_cell M6.out.b5 2; have u0 := blk_cell M6.out.b2 0; have u1 := blk_cell M6.out.b2 1; have u2 := blk_cell M6.out.b2 2; have v0 := blk_frozen M6.out.b2 0; have v1 := blk_frozen M6.out.b2 1; have v2 := blk_frozen M6.out.b2 2))
    have D := Aside0.mk M6.out.done
    clear q0 q1 q2 s0 s1 s2 u0 u1 u2 v0 v1 v2
    generalize ((w6.setCell ⟨g2, 0, none⟩ (.int .i64 2)).setCell ⟨g2, 1, none⟩ (.int .i64 n)).setCell ⟨g2, 2, none⟩ (.string ⟨#[]⟩) = W9 at D ⊢
    have z0 := (blk_cell D.out.2.2 0).trans rfl
    have z1 := (blk_cell D.out.2.2 1).trans rfl
    have z2 := (blk_cell D.out.2.2 2).trans rfl
    go_wp2
    refine bodyPost_ret (v := .tuple #[.agg #[.int .i64 2, .int .i64 n, .string ⟨#[]⟩], .bool true]) (by simp [results, Tryd.results38, go_sem, z0, z1, z2]) rfl ⟨A4, c4, rfl, D.out.1, D.out.2.1⟩
  · rcases hk with rfl | rfl
    · have HLX : Aside0 (l1 = digs t.size ++ (bytesOf t ++ rest)) := ⟨by rw [HL.out, ← List.append_assoc]; rfl⟩
      clear HK HL hs
      go_upto_region 9 with (go_at_call 65; refine (text_c _ g A1 t l1 rest c1 MID.out.rd HLX.out HB1.out HSZ.out).mono ?_; rintro e w4 ⟨A4, c4, rfl, hr4, ho4⟩; have M4 := Aside0.mk (MID.out.read hr4 ho4); clear hr4 ho4; have x1 := blk_frozen M4.out.b5 2; have y1 := blk_cell M4.out.b5 2)
      have M := Aside0.mk (M4.out.text t)
      clear x1 y1 M4
      generalize w4.setCell ⟨g5, 2, none⟩ (.string t) = W5 at M ⊢
      have q0 := blk_cell M.out.b5 0
      have q1 := blk_cell M.out.b5 1
      have q2 := blk_cell M.out.b5 2
      clear m0 m1 m2 f1 f2
      go_wp2_with (first | (go_at_call 66; refine (errno_c _ g A4 rest c4 M.out.rd).mono ?_; rintro r wz ⟨rfl, rfl⟩) | (go_at_call 31; refine (May3.vmay_calls 3 0 t true _ (by have := HSZ.out; omega) (Off.tabs M.out.off HT.out HG.out) HM.out).mono ?_; rintro e w6 ⟨rfl, hb6⟩; have M6 := Aside0.mk (M.out.below hb6); clear hb6; have s0 := blk_cell M6.out.b5 0; have s1 := blk_cell M6.out.b5 1; have s2 := blk_cell M6.out.b5 2; have u0 := blk_cell M6.out.b2 0; have u1 := blk_cell M6.out.b2 1; have u2 := blk_cell M6.out.b2 2; have v0 := blk_frozen M6.out.b2 0; have v1 := blk_frozen M6.out.b2 1; have v2 := blk_frozen M6.out.b2 2))
      have D := Aside0.mk M6.out.done
      clear q0 q1 q2 s0 s1 s2 u0 u1 u2 v0 v1 v2
      generalize ((w6.setCell ⟨g2, 0, none⟩ (.int .i64 3)).setCell ⟨g2, 1, none⟩ (.int .i64 0)).setCell ⟨g2, 2, none⟩ (.string t) = W9 at D ⊢
      have z0 := (blk_cell D.out.2.2 0).trans rfl
      have z1 := (blk_cell D.out.2.2 1).trans rfl
      have z2 := (blk_cell D.out.2.2 2).trans rfl
      go_wp2
      refine bodyPost_ret (v := .tuple #[.agg #[.int .i64 3, .int .i64 0, .string t], .bool true]) (by simp [results, Tryd.results38, go_sem, z0, z1, z2]) rfl ⟨A4, c4, rfl, D.out.1, D.out.2.1⟩
    · have HLX : Aside0 (l1 = digs t.size ++ (bytesOf t ++ rest)) := ⟨by rw [HL.out, ← List.append_assoc]; rfl⟩
      clear HK HL hs
      go_upto_region 9 with (go_at_call 65; refine (text_c _ g A1 t l1 rest c1 MID.out.rd HLX.out HB1.out HSZ.out).mono ?_; rintro e w4 ⟨A4, c4, rfl, hr4, ho4⟩; have M4 := Aside0.mk (MID.out.read hr4 ho4); clear hr4 ho4; have x1 := blk_frozen M4.out.b5 2; have y1 := blk_cell M4.out.b5 2)
      have M := Aside0.mk (M4.out.text t)
      clear x1 y1 M4
      generalize w4.setCell ⟨g5, 2, none⟩ (.string t) = W5 at M ⊢
      have q0 := blk_cell M.out.b5 0
      have q1 := blk_cell M.out.b5 1
      have q2 := blk_cell M.out.b5 2
      clear m0 m1 m2 f1 f2
      go_wp2_with (first | (go_at_call 66; refine (errno_c _ g A4 rest c4 M.out.rd).mono ?_; rintro r wz ⟨rfl, rfl⟩) | (go_at_call 31; refine (May3.vmay_calls 4 0 t true _ (by have := HSZ.out; omega) (Off.tabs M.out.off HT.out HG.out) HM.out).mono ?_; rintro e w6 ⟨rfl, hb6⟩; have M6 := Aside0.mk (M.out.below hb6); clear hb6; have s0 := blk_cell M6.out.b5 0; have s1 := blk_cell M6.out.b5 1; have s2 := blk_cell M6.out.b5 2; have u0 := blk_cell M6.out.b2 0; have u1 := blk_cell M6.out.b2 1; have u2 := blk_cell M6.out.b2 2; have v0 := blk_frozen M6.out.b2 0; have v1 := blk_frozen M6.out.b2 1; have v2 := blk_frozen M6.out.b2 2))
      have D := Aside0.mk M6.out.done
      clear q0 q1 q2 s0 s1 s2 u0 u1 u2 v0 v1 v2
      generalize ((w6.setCell ⟨g2, 0, none⟩ (.int .i64 4)).setCell ⟨g2, 1, none⟩ (.int .i64 0)).setCell ⟨g2, 2, none⟩ (.string t) = W9 at D ⊢
      have z0 := (blk_cell D.out.2.2 0).trans rfl
      have z1 := (blk_cell D.out.2.2 1).trans rfl
      have z2 := (blk_cell D.out.2.2 2).trans rfl
      go_wp2
      refine bodyPost_ret (v := .tuple #[.agg #[.int .i64 4, .int .i64 0, .string t], .bool true]) (by simp [results, Tryd.results38, go_sem, z0, z1, z2]) rfl ⟨A4, c4, rfl, D.out.1, D.out.2.1⟩
end Go.Proofs.YtaddlkokencbkaaDoor.VRead
