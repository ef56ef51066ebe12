/- image.take, by hand: a row as the document reads it. -/
import Derived.Test.YtaddlkokencbkaaDoorMRow
import Derived.Deep.RegionWith
import Derived.Test.YtaddlkokencbkaaDoorWAt
namespace Go.Proofs.YtaddlkokencbkaaDoor.Take
open Go.RowKit Go.Proofs.YtaddlkokencbkaaDoorW.PrintWords Go.Proofs.YtaddlkokencbkaaDoorW.PrintLast Go.Proofs.YtaddlkokencbkaaDoorW.PrintMore Go.Proofs.YtaddlkokencbkaaDoor.Q Go.Proofs.YtaddlkokencbkaaDoor.Exact Go.Proofs.YtaddlkokencbkaaDoor.Shelf Go.Proofs.YtaddlkokencbkaaDoor.May Go.Proofs.YtaddlkokencbkaaDoor.Rd Go.Proofs.YtaddlkokencbkaaDoor.RdN Go.Proofs.YtaddlkokencbkaaDoor.Fits Go.Proofs.YtaddlkokencbkaaDoor.Bits Go.Proofs.YtaddlkokencbkaaDoor.Row Go.Proofs.YtaddlkokencbkaaDoor.MapFn
set_option linter.unusedVariables false
set_option linter.unusedSimpArgs false
theorem Off.keepB {g : Nat} {w W W1 : World} (h : Off g w W) (hg : g < w.heap.size) (hb : Below w.heap.size W W1) : Off g w W1 :=
  ⟨hb.os.trans h.os, hb.tape.trans h.tape, hb.output.trans h.output, ⟨Nat.le_trans h.keep.1 hb.size, fun i hi hne hr => (hb.block i hi).trans (h.keep.2 i hi hne hr)⟩, fun a n c ha h0 => h.same a n c (by rw [hb.cell (p := ⟨g, 0, none⟩) hg] at ha; exact ha) h0⟩
theorem C_move {W W1 : World} {A : Option Addr} {n : Nat} {xs : List Int} (h : Kd.C (Kd.int .u8) W A n xs) (hm : ∀ ad, A = some ad → 0 < n → W1.heap[ad.block]? = W.heap[ad.block]?) : Kd.C (Kd.int .u8) W1 A n xs := by
  have h2 := Kd.reads_of_C (enc := Value.int .u8) (d := (0 : Int)) (h1 := fun _ => rfl) h
  refine Kd.C_of_reads (enc := Value.int .u8) (d := (0 : Int)) ⟨h2.1, h2.2.1, fun hn => ?_⟩
  obtain ⟨ad, e, hc⟩ := h2.2.2 hn
  refine ⟨ad, e, fun j hj => ?_⟩
  have := hm ad e hn
  have h3 := hc j hj
  unfold World.cell? at h3 ⊢
  rw [add_block, this, ← add_block ad j]
  exact h3
theorem C_ltA {W : World} {n : Nat} {xs : List Int} {ad : Addr} (h : Kd.C (Kd.int .u8) W (some ad) n xs) (hn : 0 < n) : ad.block < W.heap.size := by
  obtain ⟨ad2, cs, e2, hl, hk, hc⟩ := Kd.C_get h 0 0 (by omega) (by omega)
  injection e2 with e2
  subst e2
  match cs, hl with
  | [u], _ =>
    have := World.block_lt_of_cell? W _ (hc 0 u rfl)
    simpa [Addr.add] using this
theorem Rd.keepB {W W1 w : World} {g c c0 : Nat} {A A0 : Option Addr} {l l0 : List Int} {e e0 : Int} (h : Rd W g A l c e) (ho : Off g w W) (h0 : Rd w g A0 l0 c0 e0) (hl : l.length ≤ l0.length) (hb : Below w.heap.size W W1) : Rd W1 g A l c e := by
  have hg := h0.lt
  refine ⟨(hb.block g hg).trans h.1, C_move h.2.1 fun ad ha hn => hb.block _ ?_, h.2.2⟩
  obtain ⟨a0, h1, e1⟩ := Off.sub ho h0.cell0 h.cell0 hg ad ha
  rw [e1]
  subst h1
  exact C_ltA h0.C (by omega)
theorem col_ne {W : World} {g c n : Nat} {A : Option Addr} {e : Int} {p : Addr} {s : ByteArray} {t : TypeId} (hb : W.heap[g]? = some (.cells #[.slice A n c, .int .i64 e] t (0, 0))) (h : W.cell? p = some (.string s)) : p.block ≠ g := by
  rintro rfl
  unfold World.cell? at h
  rw [hb] at h
  dsimp only at h
  split at h
  · cases h
  · rcases p with ⟨b, o, s⟩
    match o, h with
    | 0, h => simp at h
    | 1, h => simp at h
    | (k + 2), h => simp at h
theorem cols_off {W W1 : World} {g c : Nat} {A B : Option Addr} {l : List Int} {e : Int} {cs : List Col} (h : Rd W g A l c e) (hC : Kd.C k69 W B cs.length cs) (ho : Off g W W1) : Kd.C k69 W1 B cs.length cs := by
  refine Kd.C_foot_ne (fun h => h) hC (fun ad hB hn => ?_) W1 ho.keep
  obtain ⟨ad2, pp, e2, hpp, p0, _, _⟩ := C3c hC 0 hn
  rw [hB] at e2
  injection e2 with e2
  subst e2
  have := col_ne h.1 p0
  rw [← hpp, add_block] at this
  exact this
theorem col_mem (cs : List Col) (i : Nat) (h : i < cs.length) : rd_T69 cs (i : Int) ∈ cs := by
  unfold rd_T69
  simp [List.getD_eq_getElem?_getD, List.getElem?_eq_getElem h]
/-! ### the map of functions -/
abbrev fnV (g f : Nat) : Value := .func (.func f) #[.pointer (some ⟨g, 0, none⟩)] #[]
def fnEs (g : Nat) : Array MapEntry := #[⟨.int .i64 1, fnV g 63, 0⟩, ⟨.int .i64 2, fnV g 64, 1⟩]
theorem ins1 (w : World) (g b : Nat) (hb : w.heap[b]? = some (.map #[] 0)) : (Instr.mapUpdate 89 (.map (some b)) (.int .i64 1) (fnV g 63)).run Tryd.prog w = .ok () (mset w b #[⟨.int .i64 1, fnV g 63, 0⟩] 1) :=
  run_insert Tryd.underlying89 Tryd.underlying3 hb 1 _ rfl
theorem ins2 (w : World) (g b : Nat) (hb : w.heap[b]? = some (.map #[⟨.int .i64 1, fnV g 63, 0⟩] 1)) : (Instr.mapUpdate 89 (.map (some b)) (.int .i64 2) (fnV g 64)).run Tryd.prog w = .ok () (mset w b (fnEs g) 2) :=
  run_insert Tryd.underlying89 Tryd.underlying3 hb 2 _ rfl
theorem look1 (w : World) (g b : Nat) (hb : w.heap[b]? = some (.map (fnEs g) 2)) : (Instr.lookup 89 (.map (some b)) (.int .i64 1) false).run Tryd.prog w = .ok (fnV g 63) w :=
  run_look Tryd.underlying89 Tryd.underlying3 hb 1 (j := 0) rfl
theorem look2 (w : World) (g b : Nat) (hb : w.heap[b]? = some (.map (fnEs g) 2)) : (Instr.lookup 89 (.map (some b)) (.int .i64 2) false).run Tryd.prog w = .ok (fnV g 64) w :=
  run_look Tryd.underlying89 Tryd.underlying3 hb 2 (j := 1) rfl
theorem zeroF (w : World) : (zeroValue 40).run Tryd.prog w = .ok .nilFunc w := by kernel_rfl
theorem look3 (w : World) (g b : Nat) (hb : w.heap[b]? = some (.map (fnEs g) 2)) (k : Int) (h1 : k ≠ 1) (h2 : k ≠ 2) : (Instr.lookup 89 (.map (some b)) (.int .i64 k) false).run Tryd.prog w = .ok .nilFunc w :=
  run_look_no Tryd.underlying89 Tryd.underlying3 hb k (zeroF w) (by
    have e1 : (k == 1) = false := beq_eq_false_iff_ne.2 h1
    have e2 : (k == 2) = false := beq_eq_false_iff_ne.2 h2
    simp [fnEs, Instr.findNow, Instr.sameNow, e1, e2])
theorem neqF1 (w : World) (g f : Nat) : (binOp .neq 40 (fnV g f) .nilFunc).run Tryd.prog w = .ok (.bool true) w := by kernel_rfl
theorem neqF0 (w : World) : (binOp .neq 40 .nilFunc .nilFunc).run Tryd.prog w = .ok (.bool false) w := by kernel_rfl
/-! ### the walk -/
def TakeR (ok : Bool) (vs : List V) (e : Ending) (w' : World) : Prop :=
  if ok = true then ∃ B d, e = .returned (.tuple #[.slice B vs.length d, .bool true]) ∧ vs.length ≤ d ∧ Kd.C k51 w' B vs.length vs
  else e = .returned (.tuple #[.slice none 0 0, .bool false])
def TakePost (w : World) (g : Nat) (cs : List Col) (l0 : List Int) (e0 : Int) (r : Ending) (w' : World) : Prop :=
  (∃ A l c e, Rd w' g A l c e ∧ (okB cs (byteV l0 e0) (byteL l0 e0) (byteE l0 e0) = true → l = (rowR cs (byteV l0 e0) (byteL l0 e0) (byteE l0 e0)).2.1)) ∧ Off g w w' ∧ TakeR (okB cs (byteV l0 e0) (byteL l0 e0) (byteE l0 e0)) (rowR cs (byteV l0 e0) (byteL l0 e0) (byteE l0 e0)).1 r w'
abbrev blkC (s : ByteArray) (k : Int) (b : Bool) : Obj := .cells #[.string s, .int .i64 k, .bool b] 69
abbrev blkV (v : V) : Obj := .cells #[.int .i64 v.f0, .int .i64 v.f1, .string v.f2] 51
/-- Within a round. -/
structure Mid (w : World) (g bn bm n : Nat) (x : Int) (v9 : Value) (out : List V) (g1 g2 : Nat) (s : ByteArray) (k : Int) (nb : Bool) (A : Option Addr) (l : List Int) (c : Nat) (e : Int) (vv : V) (W : World) : Prop where
  rd : Rd W g A l c e
  off : Off g w W
  nul : W.heap[bn]? = some (.cells (boolA n x n) 4 (0, 0))
  mp : W.heap[bm]? = some (.map (fnEs g) 2)
  row : Kd.R k51 51 W w.heap.size (fun k => k ≠ bn ∧ k ≠ bm ∧ k ≠ g1 ∧ k ≠ g2 ∧ w.heap.size ≤ k) v9 out
  cb : W.heap[g1]? = some (blkC s k nb)
  vb : W.heap[g2]? = some (blkV vv)
  lt : g < w.heap.size
  hn : w.heap.size ≤ bn
  hm : w.heap.size ≤ bm
  h1 : w.heap.size ≤ g1
  h2 : w.heap.size ≤ g2
  n12 : g1 ≠ g2
  n1 : g2 ≠ bn
  n2 : g2 ≠ bm
theorem Mid.read {w : World} {g bn bm n : Nat} {x : Int} {v9 : Value} {out : List V} {g1 g2 : Nat} {s : ByteArray} {k : Int} {nb : Bool} {A A' : Option Addr} {l l' : List Int} {c c' : Nat} {e e' : Int} {vv : V} {W W1 : World} (h : Mid w g bn bm n x v9 out g1 g2 s k nb A l c e vv W) (hr : Rd W1 g A' l' c' e') (ho : Off g W W1) :
    Mid w g bn bm n x v9 out g1 g2 s k nb A' l' c' e' vv W1 :=
  ⟨hr, h.off.trans ho, ho.keep.blk h.nul (by have := h.lt; have := h.hn; omega) (by simp), ho.keep.blk h.mp (by have := h.lt; have := h.hm; omega) (by simp), Kd.R_keep h.row ho.keep (fun k hk => by have := h.lt; have := hk.2.2.2.2; omega), ho.keep.blk h.cb (by have := h.lt; have := h.h1; omega) (by simp), ho.keep.blk h.vb (by have := h.lt; have := h.h2; omega) (by simp), h.lt, h.hn, h.hm, h.h1, h.h2, h.n12, h.n1, h.n2⟩
theorem Mid.drew {w : World} {g bn bm n : Nat} {x : Int} {v9 : Value} {out : List V} {g1 g2 : Nat} {s : ByteArray} {k : Int} {nb : Bool} {A : Option Addr} {l : List Int} {c : Nat} {e : Int} {vv : V} {W : World} (h : Mid w g bn bm n x v9 out g1 g2 s k nb A l c e vv W) : Mid w g bn bm n x v9 out g1 g2 s k nb A l c e vv W.drew :=
  h.read h.rd.drew ((Off.refl g W).drew)
theorem Mid.put {w : World} {g bn bm n : Nat} {x : Int} {v9 : Value} {out : List V} {g1 g2 : Nat} {s : ByteArray} {k : Int} {nb : Bool} {A : Option Addr} {l : List Int} {c : Nat} {e : Int} {vv : V} {W : World} (h : Mid w g bn bm n x v9 out g1 g2 s k nb A l c e vv W) (u : V) :
    Mid w g bn bm n x v9 out g1 g2 s k nb A l c e u (((W.setCell ⟨g2, 0, none⟩ (.int .i64 u.f0)).setCell ⟨g2, 1, none⟩ (.int .i64 u.f1)).setCell ⟨g2, 2, none⟩ (.string u.f2)) := by
  have hne : g ≠ g2 := by have := h.lt; have := h.h2; omega
  have no : ∀ (a b : Int) (t : ByteArray), ∀ v ∈ (#[Value.int .i64 a, .int .i64 b, .string t] : Array Value).toList, ∀ y, v ≠ .int .u8 y := by
    intro a b t v hv y e
    simp at hv
    rcases hv with rfl | rfl | rfl <;> cases e
  have f : ∀ (W1 : World) (j : Nat) (y : Value) (i : Nat), i ≠ g2 → (W1.setCell ⟨g2, j, none⟩ y).heap[i]? = W1.heap[i]? := fun W1 j y i hi => Below.heap_setCell W1 ⟨g2, j, none⟩ y i hi
  have e1 : (W.setCell ⟨g2, 0, none⟩ (.int .i64 u.f0)).heap[g2]? = some (.cells #[.int .i64 u.f0, .int .i64 vv.f1, .string vv.f2] 51 (0, 0)) := blk_put h.vb 0 _ rfl
  have e2 : ((W.setCell ⟨g2, 0, none⟩ (.int .i64 u.f0)).setCell ⟨g2, 1, none⟩ (.int .i64 u.f1)).heap[g2]? = some (.cells #[.int .i64 u.f0, .int .i64 u.f1, .string vv.f2] 51 (0, 0)) := blk_put e1 1 _ rfl
  have r1 := Rd.setX h.rd h.vb (no _ _ _) hne 0 (.int .i64 u.f0)
  have r2 := Rd.setX r1 e1 (no _ _ _) hne 1 (.int .i64 u.f1)
  have r3 := Rd.setX r2 e2 (no _ _ _) hne 2 (.string u.f2)
  have h2 := h.h2
  have h3 := h.lt
  refine ⟨r3, Off.far (Off.far (Off.far h.off h2 h3 _) h2 h3 _) h2 h3 _, ?_, ?_, ?_, ?_, blk_put e2 2 _ rfl, h3, h.hn, h.hm, h.h1, h2, h.n12, h.n1, h.n2⟩
  · rw [f _ _ _ _ (Ne.symm h.n1), f _ _ _ _ (Ne.symm h.n1), f _ _ _ _ (Ne.symm h.n1)]; exact h.nul
  · rw [f _ _ _ _ (Ne.symm h.n2), f _ _ _ _ (Ne.symm h.n2), f _ _ _ _ (Ne.symm h.n2)]; exact h.mp
  · exact Kd.R_far (Kd.R_far (Kd.R_far h.row (p := ⟨g2, 0, none⟩) (fun k hk => hk.2.2.2.1) _) (p := ⟨g2, 1, none⟩) (fun k hk => hk.2.2.2.1) _) (p := ⟨g2, 2, none⟩) (fun k hk => hk.2.2.2.1) _
  · rw [f _ _ _ _ h.n12, f _ _ _ _ h.n12, f _ _ _ _ h.n12]; exact h.cb
def MidV (w : World) (g bn bm n : Nat) (x : Int) (v9 : Value) (out : List V) (g1 g2 : Nat) (s : ByteArray) (k : Int) (nb : Bool) (l : List Int) (e : Int) (vv : V) (W : World) : Prop := ∃ A c, Mid w g bn bm n x v9 out g1 g2 s k nb A l c e vv W
def RelT (w : World) (g : Nat) (l0 : List Int) (cs : List Col) (x : Int) (l1 : List Int) (e1 : Int) (bn bm : Nat) (v9 v31 : Value) (wr : World) : Prop :=
  ∃ (i : Nat) (out : List V) (l : List Int) (e : Int) (A : Option Addr) (c : Nat), v31 = .int .i64 (i : Int) ∧ i ≤ cs.length ∧ At cs x l1 e1 i out l e ∧ Rd wr g A l c e ∧ Off g w wr ∧ wr.heap[bn]? = some (.cells (boolA cs.length x cs.length) 4 (0, 0)) ∧ wr.heap[bm]? = some (.map (fnEs g) 2) ∧
    Kd.R k51 51 wr w.heap.size (fun k => k ≠ bn ∧ k ≠ bm ∧ w.heap.size ≤ k) v9 out
set_option maxHeartbeats 4000000 in
set_option maxRecDepth 100000 in
theorem take_calls (w : World) (g : Nat) (A0 : Option Addr) (l0 : List Int) (c0 : Nat) (e0 : Int) (h : Rd w g A0 l0 c0 e0) (hb : ∀ x ∈ l0, 0 ≤ x ∧ x < 256) (B : Option Addr) (d : Nat) (cs : List Col) (hC : Kd.C k69 w B cs.length cs) (hd : cs.length ≤ d)
    (h1 : 1 ≤ cs.length) (h8 : cs.length ≤ 8) (hk : ∀ c ∈ cs, 1 ≤ c.f1 ∧ c.f1 ≤ 4) (hT : ∀ W, Off g w W → Tabs W) :
    Calls Tryd.prog 42 #[.pointer (some ⟨g, 0, none⟩), .slice B cs.length d] w fun r w' => TakePost w g cs l0 e0 r w' := by
  have H := Aside0.mk h
  have HB := Aside0.mk hb
  have HC := Aside0.mk hC
  have HK := Aside0.mk hk
  have HT := Aside0.mk hT
  have hmm := @run_makeMap Tryd.prog
  clear h hb hC hk hT
  have e1 := ins1 (w.alloc (.map #[] 0)) g w.heap.size (MapKept.heap_alloc w _).1
  have e2 := ins2 (mset (w.alloc (.map #[] 0)) w.heap.size #[⟨.int .i64 1, fnV g 63, 0⟩] 1) g w.heap.size (mset_get (by simp) _ _)
  go_enter Tryd.func42, Tryd.ntmps42
  go_upto_region 2 with fail
  have hm0 : (mset (mset (w.alloc (.map #[] 0)) w.heap.size #[⟨.int .i64 1, fnV g 63, 0⟩] 1) w.heap.size (fnEs g) 2).heap[w.heap.size]? = some (.map (fnEs g) 2) := mset_get (by simp [mset]) _ _
  have hb0 : Below w.heap.size w (mset (mset (w.alloc (.map #[] 0)) w.heap.size #[⟨.int .i64 1, fnV g 63, 0⟩] 1) w.heap.size (fnEs g) 2) := mset_below (mset_below (below_alloc (Below.refl _ _) _) (Nat.le_refl _) _ _) (Nat.le_refl _) _ _
  generalize mset (mset (w.alloc (.map #[] 0)) w.heap.size #[⟨.int .i64 1, fnV g 63, 0⟩] 1) w.heap.size (fnEs g) 2 = W0 at hm0 hb0 ⊢
  clear e1 e2
  have HM := Aside0.mk hm0
  have HB0 := Aside0.mk hb0
  clear hm0 hb0
  have HO0 := Aside0.mk (Off.keepB (Off.refl g w) H.out.lt HB0.out)
  have HR0 := Aside0.mk (H.out.below HB0.out)
  obtain ⟨x, hx⟩ : ∃ x, byteV l0 e0 = x := ⟨_, rfl⟩
  obtain ⟨l1, hl1⟩ : ∃ l, byteL l0 e0 = l := ⟨_, rfl⟩
  obtain ⟨e1, he1⟩ : ∃ e, byteE l0 e0 = e := ⟨_, rfl⟩
  have HP : Aside0 (∀ r w', TakePost w g cs l0 e0 r w' ↔ ((∃ A l c e, Rd w' g A l c e ∧ (okB cs x l1 e1 = true → l = (rowR cs x l1 e1).2.1)) ∧ Off g w w' ∧ TakeR (okB cs x l1 e1) (rowR cs x l1 e1).1 r w')) := ⟨fun r w' => by unfold TakePost; rw [hx, hl1, he1]⟩
  have HS1 : Aside0 (l1 <:+ l0) := ⟨by rw [← hl1]; exact byteL_suffix l0 e0⟩
  have HX := Aside0.mk hx
  have HL1 := Aside0.mk hl1
  have HE1 := Aside0.mk he1
  clear hx hl1 he1
  go_wp2_with (go_at_call 67; refine Calls.mono ((bits_calls W0 g cs.length A0 l0 c0 e0 x HR0.out HB.out h1 h8 HX.out).mono (fun e w' h => (⟨h⟩ : Aside0 (BitsPost W0 g cs.length l0 e0 x e w')))) ?_)
  rintro r w1 hbp
  obtain ⟨A1, c1, hbits, hr1, ho1⟩ := hbp.out
  clear hbp
  rw [HL1.out, HE1.out] at hr1
  have HR1 := Aside0.mk hr1
  have HO1 := Aside0.mk (HO0.out.trans ho1)
  have HM1 := Aside0.mk (ho1.keep.blk HM.out (by have := H.out.lt; omega) (by simp))
  unfold BitsR at hbits
  by_cases hsm : x < ((2 ^ cs.length : Nat) : Int)
  · rw [if_pos hsm] at hbits
    obtain ⟨bn, rfl, hn1, hbn⟩ := hbits
    have HSM := Aside0.mk hsm
    have HN1 := Aside0.mk hn1
    have hbn2 : w.heap.size < bn ∨ w.heap.size = bn := by have := HB0.out.size; omega
    have hgl := H.out.lt
    have hl31 : cs.length ≤ 9223372036854775807 := HC.out.2.1
    clear hr1 ho1 hsm hn1
    go_wp2_with fail
    go_loopw [9, 31] (fun v9 v31 wr => RelT w g l0 cs x l1 e1 bn w.heap.size v9 v31 wr) (fun _ v31 _ => (cs.length - intOf v31).toNat)
    case atStart => exact ⟨0, [], l1, e1, A1, c1, rfl, by omega, At.start cs x l1 e1, HR1.out, HO1.out, HN1.out, HM1.out, Kd.R_nil _ _ _ _ _⟩
    case round =>
      obtain ⟨i, out, l, e, A, c, rfl, hi, ha, hr, ho, hn, hm, hR⟩ := hrel
      have HA2 := Aside0.mk ha
      have HR2 := Aside0.mk hr
      have HO2 := Aside0.mk ho
      have HN2 := Aside0.mk hn
      have HM2 := Aside0.mk hm
      have HRW := Aside0.mk hR
      clear ha hr ho hn hm hR
      by_cases hin : i < cs.length
      · have d1 : decide ((i : Int) < (cs.length : Int)) = true := decide_eq_true (by omega)
        obtain ⟨ad, pp, rfl, hpp, p0, p1, p2⟩ := C3c HC.out i hin
        have hne := col_ne H.out.1 p0
        have q0 := cell_off p0 hne HO2.out
        have q1 := cell_off p1 hne HO2.out
        have q2 := cell_off p2 hne HO2.out
        have hkk := HK.out _ (col_mem cs i hin)
        obtain ⟨⟨s, k, nb⟩, hcol⟩ : ∃ u, rd_T69 cs (i : Int) = u := ⟨_, rfl⟩
        rw [hcol] at q0 q1 q2 hkk
        have HCOL := Aside0.mk hcol
        clear hcol p0 p1 p2 hne
        go_upto_region 10 with fail
        have hbw := below_alloc (below_alloc (Below.refl wr.heap.size wr) (blkC s k nb)) (blkV nullV)
        have b1 := blk_below (blk_new wr (blkC s k nb)) (below_alloc (Below.refl (wr.alloc (blkC s k nb)).heap.size (wr.alloc (blkC s k nb))) (blkV nullV))
        have b2 := blk_new (wr.alloc (blkC s k nb)) (blkV nullV)
        have hsz : (wr.alloc (blkC s k nb)).heap.size = wr.heap.size + 1 := by simp
        rw [hsz] at b2
        have hw0 := HO2.out.keep.1
        have hbl := blk_lt HN2.out
        have hml : w.heap.size < wr.heap.size := (Array.getElem?_eq_some_iff.1 HM2.out).1
        have MID : Aside0 (Mid w g bn w.heap.size cs.length x u9 out wr.heap.size (wr.heap.size + 1) s k nb A l c e nullV ((wr.alloc (blkC s k nb)).alloc (blkV nullV))) :=
          ⟨⟨HR2.out.below hbw, Off.below' HO2.out hgl hbw, blk_below HN2.out hbw, (hbw.block _ hml).trans HM2.out, Kd.R_mono (Kd.R_below (Kd.R_mono (Kd.R_bound HRW.out) (fun k hk => hk)) hbw) (fun k hk => ⟨hk.1.1, hk.1.2.1, by have := hk.2.2.1; omega, by have := hk.2.2.1; omega, hk.1.2.2⟩), b1, b2, hgl, by omega, Nat.le_refl _, by omega, by omega, by omega, by omega, by omega⟩⟩
        change Code.wp _ _ _ _ ((wr.alloc (blkC s k nb)).alloc (blkV nullV))
        generalize (wr.alloc (blkC s k nb)).alloc (blkV nullV) = W at MID ⊢
        generalize wr.heap.size = g1 at MID ⊢
        generalize hg2 : g1 + 1 = g2 at MID ⊢
        clear hg2 hbw b1 b2 hsz hw0 hbl hml HR2 HO2 HN2 HM2 HRW q0 q1 q2
        have HBL : Aside0 (∀ y ∈ l, 0 ≤ y ∧ y < 256) := ⟨suffix_mem (HA2.out.suf.trans HS1.out) HB.out⟩
        obtain ⟨⟨⟨a, b, t⟩, l2, e2⟩, hone⟩ : ∃ r, oneR (x / ((2 ^ i : Nat) : Int)) k l e = r := ⟨_, rfl⟩
        have hone2 : oneR (x / ((2 ^ i : Nat) : Int)) (rd_T69 cs (i : Int)).f1 l e = (⟨a, b, t⟩, l2, e2) := by rw [HCOL.out]; exact hone
        have HONE := Aside0.mk hone2
        have HLE : Aside0 (l2.length ≤ l0.length) := ⟨((HA2.out.next hin hone2).suf.trans HS1.out).length_le⟩
        have nc := (blk_cell MID.out.nul i).trans (boolA_get cs.length x cs.length i hin)
        rw [if_pos hin] at nc
        have m1 := (blk_cell MID.out.cb 1).trans rfl
        have HNE1 := fun W => neqF1 W g 63
        have HNE2 := fun W => neqF1 W g 64
        have HNE3 := neqF0
        clear hone2
        by_cases hbit : bitB x i = true
        · rw [hbit] at nc
          have hz : oneR (x / ((2 ^ i : Nat) : Int)) k l e = (nullV, l, e) := by
            unfold oneR
            rw [if_pos (by simpa [bitB] using hbit)]
          rw [hz] at hone
          injection hone with h1' h2'
          injection h2' with h2' h3'
          subst h2' h3'
          have HV : Aside0 (nullV = (⟨a, b, t⟩ : V)) := ⟨h1'⟩
          have MR : Aside0 (Mid w g bn w.heap.size cs.length x u9 out g1 g2 s k nb A l c e ⟨a, b, t⟩ W) := ⟨HV.out ▸ MID.out⟩
          clear hz hbit HV h1'
          have hkc : k = 1 ∨ k = 2 ∨ (k ≠ 1 ∧ k ≠ 2) := by omega
          rcases hkc with rfl | rfl | ⟨hk1, hk2⟩
          · have hlk := look1 W g w.heap.size MID.out.mp
            clear MID
            have q0 := (blk_cell MR.out.vb 0).trans rfl
            have q1 := (blk_cell MR.out.vb 1).trans rfl
            have q2 := (blk_cell MR.out.vb 2).trans rfl
            go_wp2_with (at_builtin; refine Kd.R_append k51 (w0 := W) w.heap.size rfl (.tmp 65) (.tmp 67) 35 51 (.agg #[(.int .i64 0), (.int .i64 0), (.string ⟨#[]⟩)]) 32 rfl Tryd.underlying35 info51 rfl (by decide) (by omega) u9 out (⟨a, b, t⟩ : V) [.int .i64 a, .int .i64 b, .string t] (fun k => k ≠ bn ∧ k ≠ w.heap.size ∧ w.heap.size ≤ k) (fun _ => False) rfl rfl ?aP (fun _ hk => hk.elim) ?aF ?aO ?aB ?aS ?aL ?_)
            case aP => exact k51_mkM _ _ _ (⟨a, b, t⟩ : V)
            case aF => exact fun k hk => by have := MR.out.hn; have := blk_lt MR.out.nul; have := (Array.getElem?_eq_some_iff.1 MR.out.mp).1; exact ⟨by omega, by omega, by omega⟩
            case aO => exact Kd.R_mono MR.out.row (fun k hk => ⟨hk.1, hk.2.1, hk.2.2.2.2⟩)
            case aB => exact Below.refl _ _
            case aS => have := MR.out.hn; have := blk_lt MR.out.nul; omega
            case aL => have := HA2.out.len; omega
            intro v5 w9 ho hb hgr _
            have HR9 := Aside0.mk ho
            have HRD9 := Aside0.mk (Rd.keepB MR.out.rd MR.out.off H.out HLE.out hb)
            have HO9 := Aside0.mk (Off.keepB MR.out.off hgl hb)
            have HN9 := Aside0.mk ((hgr.block _ (blk_lt MR.out.nul) (fun e => (MR.out.row.1 _ e.symm).1 rfl)).trans MR.out.nul)
            have HM9 := Aside0.mk ((hgr.block _ (Array.getElem?_eq_some_iff.1 MR.out.mp).1 (fun e => (MR.out.row.1 _ e.symm).2.1 rfl)).trans MR.out.mp)
            clear ho hb hgr q0 q1 q2
            go_wp2
            go_roundw
            case rel => exact ⟨i + 1, out ++ [⟨a, b, t⟩], l, e, _, _, by go_num, by omega, HA2.out.next hin HONE.out, HRD9.out, HO9.out, HN9.out, HM9.out, HR9.out⟩
            case measure => simp [intOf]; omega
          · have hlk := look2 W g w.heap.size MID.out.mp
            clear MID
            have q0 := (blk_cell MR.out.vb 0).trans rfl
            have q1 := (blk_cell MR.out.vb 1).trans rfl
            have q2 := (blk_cell MR.out.vb 2).trans rfl
            go_wp2_with (at_builtin; refine Kd.R_append k51 (w0 := W) w.heap.size rfl (.tmp 65) (.tmp 67) 35 51 (.agg #[(.int .i64 0), (.int .i64 0), (.string ⟨#[]⟩)]) 32 rfl Tryd.underlying35 info51 rfl (by decide) (by omega) u9 out (⟨a, b, t⟩ : V) [.int .i64 a, .int .i64 b, .string t] (fun k => k ≠ bn ∧ k ≠ w.heap.size ∧ w.heap.size ≤ k) (fun _ => False) rfl rfl ?aP (fun _ hk => hk.elim) ?aF ?aO ?aB ?aS ?aL ?_)
            case aP => exact k51_mkM _ _ _ (⟨a, b, t⟩ : V)
            case aF => exact fun k hk => by have := MR.out.hn; have := blk_lt MR.out.nul; have := (Array.getElem?_eq_some_iff.1 MR.out.mp).1; exact ⟨by omega, by omega, by omega⟩
            case aO => exact Kd.R_mono MR.out.row (fun k hk => ⟨hk.1, hk.2.1, hk.2.2.2.2⟩)
            case aB => exact Below.refl _ _
            case aS => have := MR.out.hn; have := blk_lt MR.out.nul; omega
            case aL => have := HA2.out.len; omega
            intro v5 w9 ho hb hgr _
            have HR9 := Aside0.mk ho
            have HRD9 := Aside0.mk (Rd.keepB MR.out.rd MR.out.off H.out HLE.out hb)
            have HO9 := Aside0.mk (Off.keepB MR.out.off hgl hb)
            have HN9 := Aside0.mk ((hgr.block _ (blk_lt MR.out.nul) (fun e => (MR.out.row.1 _ e.symm).1 rfl)).trans MR.out.nul)
            have HM9 := Aside0.mk ((hgr.block _ (Array.getElem?_eq_some_iff.1 MR.out.mp).1 (fun e => (MR.out.row.1 _ e.symm).2.1 rfl)).trans MR.out.mp)
            clear ho hb hgr q0 q1 q2
            go_wp2
            go_roundw
            case rel => exact ⟨i + 1, out ++ [⟨a, b, t⟩], l, e, _, _, by go_num, by omega, HA2.out.next hin HONE.out, HRD9.out, HO9.out, HN9.out, HM9.out, HR9.out⟩
            case measure => simp [intOf]; omega
          · have hlk := look3 W g w.heap.size MID.out.mp k hk1 hk2
            clear MID hk1 hk2
            have q0 := (blk_cell MR.out.vb 0).trans rfl
            have q1 := (blk_cell MR.out.vb 1).trans rfl
            have q2 := (blk_cell MR.out.vb 2).trans rfl
            go_wp2_with (at_builtin; refine Kd.R_append k51 (w0 := W) w.heap.size rfl (.tmp 65) (.tmp 67) 35 51 (.agg #[(.int .i64 0), (.int .i64 0), (.string ⟨#[]⟩)]) 32 rfl Tryd.underlying35 info51 rfl (by decide) (by omega) u9 out (⟨a, b, t⟩ : V) [.int .i64 a, .int .i64 b, .string t] (fun k => k ≠ bn ∧ k ≠ w.heap.size ∧ w.heap.size ≤ k) (fun _ => False) rfl rfl ?aP (fun _ hk => hk.elim) ?aF ?aO ?aB ?aS ?aL ?_)
            case aP => exact k51_mkM _ _ _ (⟨a, b, t⟩ : V)
            case aF => exact fun k hk => by have := MR.out.hn; have := blk_lt MR.out.nul; have := (Array.getElem?_eq_some_iff.1 MR.out.mp).1; exact ⟨by omega, by omega, by omega⟩
            case aO => exact Kd.R_mono MR.out.row (fun k hk => ⟨hk.1, hk.2.1, hk.2.2.2.2⟩)
            case aB => exact Below.refl _ _
            case aS => have := MR.out.hn; have := blk_lt MR.out.nul; omega
            case aL => have := HA2.out.len; omega
            intro v5 w9 ho hb hgr _
            have HR9 := Aside0.mk ho
            have HRD9 := Aside0.mk (Rd.keepB MR.out.rd MR.out.off H.out HLE.out hb)
            have HO9 := Aside0.mk (Off.keepB MR.out.off hgl hb)
            have HN9 := Aside0.mk ((hgr.block _ (blk_lt MR.out.nul) (fun e => (MR.out.row.1 _ e.symm).1 rfl)).trans MR.out.nul)
            have HM9 := Aside0.mk ((hgr.block _ (Array.getElem?_eq_some_iff.1 MR.out.mp).1 (fun e => (MR.out.row.1 _ e.symm).2.1 rfl)).trans MR.out.mp)
            clear ho hb hgr q0 q1 q2
            go_wp2
            go_roundw
            case rel => exact ⟨i + 1, out ++ [⟨a, b, t⟩], l, e, _, _, by go_num, by omega, HA2.out.next hin HONE.out, HRD9.out, HO9.out, HN9.out, HM9.out, HR9.out⟩
            case measure => simp [intOf]; omega
        · have hbit : bitB x i = false := by simpa using hbit
          rw [hbit] at nc
          have hz : oneR (x / ((2 ^ i : Nat) : Int)) k l e = valR k l e := by
            unfold oneR
            rw [if_neg (by simpa [bitB] using hbit)]
          rw [hz] at hone
          clear hz hbit
          have hkc : k = 1 ∨ k = 2 ∨ (k ≠ 1 ∧ k ≠ 2) := by omega
          rcases hkc with rfl | rfl | ⟨hk1, hk2⟩
          · have hlk := look1 W g w.heap.size MID.out.mp
            unfold valR at hone
            rw [if_pos rfl] at hone
            simp only [Prod.mk.injEq, S51.mk.injEq] at hone
            obtain ⟨⟨rfl, hb', rfl⟩, hl', he'⟩ := hone
            have HB' := Aside0.mk hb'
            have HL' := Aside0.mk hl'
            have HE' := Aside0.mk he'
            clear hb' hl' he'
            go_upto_region 12 with fail
            go_cut [] (fun wx => MidV w g bn w.heap.size cs.length x u9 out g1 g2 s 1 nb l2 e2 ⟨1, b, ⟨#[]⟩⟩ wx)
            case first =>
              have m1 := (blk_cell MID.out.cb 1).trans rfl
              go_region_with (first | (go_at_call 63; refine (byte_calls _ g A l c e (Mid.drew MID.out).rd HBL.out).mono ?_; rintro r w5 ⟨A', c', rfl, hr, ho⟩; rw [HB'.out]; rw [HL'.out, HE'.out] at hr; have M5 := Aside0.mk ((Mid.drew MID.out).read hr ho); have x1 := (blk_cell M5.out.cb 1).trans rfl; have y0 := (blk_cell M5.out.vb 0).trans rfl; have y1 := (blk_cell M5.out.vb 1).trans rfl; have y2 := (blk_cell M5.out.vb 2).trans rfl; have z0 := blk_frozen M5.out.vb 0; have z1 := blk_frozen M5.out.vb 1; have z2 := blk_frozen M5.out.vb 2; clear hr ho))
              all_goals (go_wp2_with fail; go_meet; exact ⟨_, _, M5.out.put ⟨1, b, ⟨#[]⟩⟩⟩)
            case rest =>
            obtain ⟨A2, c2, hmid⟩ := hcut
            have MR := Aside0.mk hmid
            clear hmid
            have q0 := (blk_cell MR.out.vb 0).trans rfl
            have q1 := (blk_cell MR.out.vb 1).trans rfl
            have q2 := (blk_cell MR.out.vb 2).trans rfl
            go_wp2_with (at_builtin; refine Kd.R_append k51 (w0 := wc) w.heap.size rfl (.tmp 65) (.tmp 67) 35 51 (.agg #[(.int .i64 0), (.int .i64 0), (.string ⟨#[]⟩)]) 32 rfl Tryd.underlying35 info51 rfl (by decide) (by omega) u9 out (⟨1, b, ⟨#[]⟩⟩ : V) [.int .i64 1, .int .i64 b, .string ⟨#[]⟩] (fun k => k ≠ bn ∧ k ≠ w.heap.size ∧ w.heap.size ≤ k) (fun _ => False) rfl rfl ?aP (fun _ hk => hk.elim) ?aF ?aO ?aB ?aS ?aL ?_)
            case aP => exact k51_mkM _ _ _ (⟨1, b, ⟨#[]⟩⟩ : V)
            case aF => exact fun k hk => by have := MR.out.hn; have := blk_lt MR.out.nul; have := (Array.getElem?_eq_some_iff.1 MR.out.mp).1; exact ⟨by omega, by omega, by omega⟩
            case aO => exact Kd.R_mono MR.out.row (fun k hk => ⟨hk.1, hk.2.1, hk.2.2.2.2⟩)
            case aB => exact Below.refl _ _
            case aS => have := MR.out.hn; have := blk_lt MR.out.nul; omega
            case aL => have := HA2.out.len; omega
            intro v5 w9 ho hb hgr _
            have HR9 := Aside0.mk ho
            have HRD9 := Aside0.mk (Rd.keepB MR.out.rd MR.out.off H.out HLE.out hb)
            have HO9 := Aside0.mk (Off.keepB MR.out.off hgl hb)
            have HN9 := Aside0.mk ((hgr.block _ (blk_lt MR.out.nul) (fun e => (MR.out.row.1 _ e.symm).1 rfl)).trans MR.out.nul)
            have HM9 := Aside0.mk ((hgr.block _ (Array.getElem?_eq_some_iff.1 MR.out.mp).1 (fun e => (MR.out.row.1 _ e.symm).2.1 rfl)).trans MR.out.mp)
            clear ho hb hgr q0 q1 q2
            go_wp2
            go_roundw
            case rel => exact ⟨i + 1, out ++ [⟨1, b, ⟨#[]⟩⟩], l2, e2, _, _, by go_num, by omega, HA2.out.next hin HONE.out, HRD9.out, HO9.out, HN9.out, HM9.out, HR9.out⟩
            case measure => simp [intOf]; omega
          · have hlk := look2 W g w.heap.size MID.out.mp
            unfold valR at hone
            rw [if_neg (by decide), if_pos rfl] at hone
            simp only [Prod.mk.injEq, S51.mk.injEq] at hone
            obtain ⟨⟨rfl, hb', rfl⟩, hl', he'⟩ := hone
            have HB' := Aside0.mk hb'
            have HL' := Aside0.mk hl'
            have HE' := Aside0.mk he'
            clear hb' hl' he'
            go_upto_region 12 with fail
            go_cut [] (fun wx => MidV w g bn w.heap.size cs.length x u9 out g1 g2 s 2 nb l2 e2 ⟨2, b, ⟨#[]⟩⟩ wx)
            case first =>
              have m1 := (blk_cell MID.out.cb 1).trans rfl
              go_region_with (first | (go_at_call 64; refine (signed_calls _ g A l c e (Mid.drew MID.out).rd HBL.out).mono ?_; rintro r w5 ⟨A', c', rfl, hr, ho⟩; rw [HB'.out]; rw [HL'.out, HE'.out] at hr; have M5 := Aside0.mk ((Mid.drew MID.out).read hr ho); have x1 := (blk_cell M5.out.cb 1).trans rfl; have y0 := (blk_cell M5.out.vb 0).trans rfl; have y1 := (blk_cell M5.out.vb 1).trans rfl; have y2 := (blk_cell M5.out.vb 2).trans rfl; have z0 := blk_frozen M5.out.vb 0; have z1 := blk_frozen M5.out.vb 1; have z2 := blk_frozen M5.out.vb 2; clear hr ho))
              all_goals (go_wp2_with fail; go_meet; exact ⟨_, _, M5.out.put ⟨2, b, ⟨#[]⟩⟩⟩)
            case rest =>
            obtain ⟨A2, c2, hmid⟩ := hcut
            have MR := Aside0.mk hmid
            clear hmid
            have q0 := (blk_cell MR.out.vb 0).trans rfl
            have q1 := (blk_cell MR.out.vb 1).trans rfl
            have q2 := (blk_cell MR.out.vb 2).trans rfl
            go_wp2_with (at_builtin; refine Kd.R_append k51 (w0 := wc) w.heap.size rfl (.tmp 65) (.tmp 67) 35 51 (.agg #[(.int .i64 0), (.int .i64 0), (.string ⟨#[]⟩)]) 32 rfl Tryd.underlying35 info51 rfl (by decide) (by omega) u9 out (⟨2, b, ⟨#[]⟩⟩ : V) [.int .i64 2, .int .i64 b, .string ⟨#[]⟩] (fun k => k ≠ bn ∧ k ≠ w.heap.size ∧ w.heap.size ≤ k) (fun _ => False) rfl rfl ?aP (fun _ hk => hk.elim) ?aF ?aO ?aB ?aS ?aL ?_)
            case aP => exact k51_mkM _ _ _ (⟨2, b, ⟨#[]⟩⟩ : V)
            case aF => exact fun k hk => by have := MR.out.hn; have := blk_lt MR.out.nul; have := (Array.getElem?_eq_some_iff.1 MR.out.mp).1; exact ⟨by omega, by omega, by omega⟩
            case aO => exact Kd.R_mono MR.out.row (fun k hk => ⟨hk.1, hk.2.1, hk.2.2.2.2⟩)
            case aB => exact Below.refl _ _
            case aS => have := MR.out.hn; have := blk_lt MR.out.nul; omega
            case aL => have := HA2.out.len; omega
            intro v5 w9 ho hb hgr _
            have HR9 := Aside0.mk ho
            have HRD9 := Aside0.mk (Rd.keepB MR.out.rd MR.out.off H.out HLE.out hb)
            have HO9 := Aside0.mk (Off.keepB MR.out.off hgl hb)
            have HN9 := Aside0.mk ((hgr.block _ (blk_lt MR.out.nul) (fun e => (MR.out.row.1 _ e.symm).1 rfl)).trans MR.out.nul)
            have HM9 := Aside0.mk ((hgr.block _ (Array.getElem?_eq_some_iff.1 MR.out.mp).1 (fun e => (MR.out.row.1 _ e.symm).2.1 rfl)).trans MR.out.mp)
            clear ho hb hgr q0 q1 q2
            go_wp2
            go_roundw
            case rel => exact ⟨i + 1, out ++ [⟨2, b, ⟨#[]⟩⟩], l2, e2, _, _, by go_num, by omega, HA2.out.next hin HONE.out, HRD9.out, HO9.out, HN9.out, HM9.out, HR9.out⟩
            case measure => simp [intOf]; omega
          · have hlk := look3 W g w.heap.size MID.out.mp k hk1 hk2
            unfold valR at hone
            rw [if_neg hk1, if_neg hk2] at hone
            simp only [Prod.mk.injEq, S51.mk.injEq] at hone
            obtain ⟨⟨rfl, rfl, hb'⟩, hl', he'⟩ := hone
            have HB' := Aside0.mk hb'
            have HL' := Aside0.mk hl'
            have HE' := Aside0.mk he'
            clear hb' hl' he' hk1 hk2
            go_upto_region 14 with fail
            go_cut [] (fun wx => MidV w g bn w.heap.size cs.length x u9 out g1 g2 s k nb l2 e2 ⟨k, 0, t⟩ wx)
            case first =>
              have m1 := (blk_cell MID.out.cb 1).trans rfl
              go_region_with (first | (go_at_call 65; refine (text_calls _ g A l c e 4096 (Mid.drew MID.out).rd HBL.out).mono ?_; rintro r w5 ⟨A', c', rfl, hr, ho⟩; rw [HB'.out]; rw [HL'.out, HE'.out] at hr; have M5 := Aside0.mk ((Mid.drew MID.out).read hr ho); have x1 := (blk_cell M5.out.cb 1).trans rfl; have y0 := (blk_cell M5.out.vb 0).trans rfl; have y1 := (blk_cell M5.out.vb 1).trans rfl; have y2 := (blk_cell M5.out.vb 2).trans rfl; have z0 := blk_frozen M5.out.vb 0; have z1 := blk_frozen M5.out.vb 1; have z2 := blk_frozen M5.out.vb 2; clear hr ho))
              all_goals (go_wp2_with fail; go_meet; exact ⟨_, _, M5.out.put ⟨k, 0, t⟩⟩)
            case rest =>
            obtain ⟨A2, c2, hmid⟩ := hcut
            have MR := Aside0.mk hmid
            clear hmid
            have q0 := (blk_cell MR.out.vb 0).trans rfl
            have q1 := (blk_cell MR.out.vb 1).trans rfl
            have q2 := (blk_cell MR.out.vb 2).trans rfl
            go_wp2_with (at_builtin; refine Kd.R_append k51 (w0 := wc) w.heap.size rfl (.tmp 65) (.tmp 67) 35 51 (.agg #[(.int .i64 0), (.int .i64 0), (.string ⟨#[]⟩)]) 32 rfl Tryd.underlying35 info51 rfl (by decide) (by omega) u9 out (⟨k, 0, t⟩ : V) [.int .i64 k, .int .i64 0, .string t] (fun k => k ≠ bn ∧ k ≠ w.heap.size ∧ w.heap.size ≤ k) (fun _ => False) rfl rfl ?aP (fun _ hk => hk.elim) ?aF ?aO ?aB ?aS ?aL ?_)
            case aP => exact k51_mkM _ _ _ (⟨k, 0, t⟩ : V)
            case aF => exact fun k hk => by have := MR.out.hn; have := blk_lt MR.out.nul; have := (Array.getElem?_eq_some_iff.1 MR.out.mp).1; exact ⟨by omega, by omega, by omega⟩
            case aO => exact Kd.R_mono MR.out.row (fun k hk => ⟨hk.1, hk.2.1, hk.2.2.2.2⟩)
            case aB => exact Below.refl _ _
            case aS => have := MR.out.hn; have := blk_lt MR.out.nul; omega
            case aL => have := HA2.out.len; omega
            intro v5 w9 ho hb hgr _
            have HR9 := Aside0.mk ho
            have HRD9 := Aside0.mk (Rd.keepB MR.out.rd MR.out.off H.out HLE.out hb)
            have HO9 := Aside0.mk (Off.keepB MR.out.off hgl hb)
            have HN9 := Aside0.mk ((hgr.block _ (blk_lt MR.out.nul) (fun e => (MR.out.row.1 _ e.symm).1 rfl)).trans MR.out.nul)
            have HM9 := Aside0.mk ((hgr.block _ (Array.getElem?_eq_some_iff.1 MR.out.mp).1 (fun e => (MR.out.row.1 _ e.symm).2.1 rfl)).trans MR.out.mp)
            clear ho hb hgr q0 q1 q2
            go_wp2
            go_roundw
            case rel => exact ⟨i + 1, out ++ [⟨k, 0, t⟩], l2, e2, _, _, by go_num, by omega, HA2.out.next hin HONE.out, HRD9.out, HO9.out, HN9.out, HM9.out, HR9.out⟩
            case measure => simp [intOf]; omega
      · obtain rfl : i = cs.length := by omega
        have d1 : decide ((cs.length : Int) < (cs.length : Int)) = false := decide_eq_false (by omega)
        have hfin := HA2.out.fin
        have hlen := HA2.out.len
        have hsh := rowR_short cs x l1 e1
        rw [hfin] at hsh
        have HSH : Aside0 (Short out) := ⟨fun v hv => by have := hsh v hv; omega⟩
        have HLEN := Aside0.mk hlen
        have HPF : Aside0 (∀ r w', ((∃ A l' c e', Rd w' g A l' c e' ∧ ((decide (e = 0) && fitsB cs out) = true → l' = l)) ∧ Off g w w' ∧ TakeR (decide (e = 0) && fitsB cs out) out r w') → TakePost w g cs l0 e0 r w') := ⟨fun r w' h => (HP.out r w').2 (by
          unfold okB
          rw [hfin, decide_eq_true HSM.out, Bool.true_and]
          exact h)⟩
        have HCC := Aside0.mk (cols_off H.out HC.out HO2.out)
        have HTT := Aside0.mk (HT.out _ HO2.out)
        obtain ⟨A9, c9, rfl, hc9, hC9⟩ := Kd.R_reads HRW.out
        have HC9 := Aside0.mk hC9
        have HCC9 := Aside0.mk hc9
        have hl9 := hC9.2.1
        clear hfin hlen hsh hC9 hc9 hin HP HA2
        by_cases he : e = 0
        · subst he
          obtain ⟨fb, hfb⟩ : ∃ fb, fitsB cs out = fb := ⟨_, rfl⟩
          have HFB := Aside0.mk hfb
          have c5 : ((0 : Int) != 0) = false := rfl
          clear hfb
          cases fb with
          | false =>
            go_wp2_with (first | (go_at_call 66; refine (errno_calls _ g A l c 0 HR2.out).mono ?_; rintro r wz ⟨rfl, rfl⟩) | (go_at_call 68; refine (schemafits_calls wr B A9 d c9 cs 0 out HCC.out hd HC9.out HCC9.out HLEN.out HSH.out HTT.out).mono ?_; rintro e w6 ⟨rfl, hb6⟩; rw [HFB.out]; have HB6 := Aside0.mk hb6; clear hb6))
            go_ret2
            exact HPF.out _ _ ⟨⟨A, l, c, 0, HR2.out.below HB6.out, fun _ => rfl⟩, Off.below' HO2.out hgl HB6.out, by rw [HFB.out]; rfl⟩
          | true =>
            go_wp2_with (first | (go_at_call 66; refine (errno_calls _ g A l c 0 HR2.out).mono ?_; rintro r wz ⟨rfl, rfl⟩) | (go_at_call 68; refine (schemafits_calls wr B A9 d c9 cs 0 out HCC.out hd HC9.out HCC9.out HLEN.out HSH.out HTT.out).mono ?_; rintro e w6 ⟨rfl, hb6⟩; rw [HFB.out]; have HB6 := Aside0.mk hb6; clear hb6))
            go_ret2
            exact HPF.out _ _ ⟨⟨A, l, c, 0, HR2.out.below HB6.out, fun _ => rfl⟩, Off.below' HO2.out hgl HB6.out, by rw [HFB.out]; exact ⟨A9, c9, rfl, HCC9.out, Kd.C_below HC9.out HB6.out⟩⟩
        · have c5 : (e != 0) = true := by rw [bne_iff_ne]; exact he
          have HE := Aside0.mk he
          clear he
          go_wp2_with (first | (go_at_call 66; refine (errno_calls _ g A l c e HR2.out).mono ?_; rintro r wz ⟨rfl, rfl⟩))
          go_ret2
          exact HPF.out _ _ ⟨⟨A, l, c, e, HR2.out, fun _ => rfl⟩, HO2.out, by rw [decide_eq_false HE.out]; rfl⟩
  · rw [if_neg hsm] at hbits
    have HOK : Aside0 (okB cs x l1 e1 = false) := ⟨by unfold okB; rw [decide_eq_false hsm]; rfl⟩
    subst hbits
    clear hr1 ho1 hsm
    go_wp2_with fail
    go_ret2
    exact (HP.out _ _).2 ⟨⟨A1, l1, c1, e1, HR1.out, fun h => by rw [HOK.out] at h; cases h⟩, HO1.out, by rw [HOK.out]; rfl⟩
end Go.Proofs.YtaddlkokencbkaaDoor.Take
