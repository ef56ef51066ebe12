/- pantographref05.Read, by hand: a row as the document reads it, of one to eight columns. -/
import Derived.Test.YtaddlkokencbkaaDoorTake
import Derived.Test.YtaddlkokencbkaaDoorRdR
import Derived.Test.YtaddlkokencbkaaDoorFitsR
namespace Go.Proofs.YtaddlkokencbkaaDoor.Read5
open Go.RowKit Go.Proofs.YtaddlkokencbkaaDoorW.PrintWords Go.Proofs.YtaddlkokencbkaaDoorW.PrintLast Go.Proofs.YtaddlkokencbkaaDoorW.PrintMore Go.Proofs.YtaddlkokencbkaaDoor.Q Go.Proofs.YtaddlkokencbkaaDoor.Exact Go.Proofs.YtaddlkokencbkaaDoor.Shelf Go.Proofs.YtaddlkokencbkaaDoor.May Go.Proofs.YtaddlkokencbkaaDoor.Rd Go.Proofs.YtaddlkokencbkaaDoor.RdR Go.Proofs.YtaddlkokencbkaaDoor.RdN Go.Proofs.YtaddlkokencbkaaDoor.Fits Go.Proofs.YtaddlkokencbkaaDoor.Bits Go.Proofs.YtaddlkokencbkaaDoor.Row Go.Proofs.YtaddlkokencbkaaDoor.Take
set_option linter.unusedVariables false
set_option linter.unusedSimpArgs false
theorem RdR.keepB {W W1 w : World} {g c c0 : Nat} {A A0 : Option Addr} {l l0 : List Int} {e e0 : Int} (h : RdR W g A l c e) (ho : Off g w W) (h0 : RdR w g A0 l0 c0 e0) (hl : l.length ≤ l0.length) (hb : Below w.heap.size W W1) : RdR W1 g A l c e := by
  have hg := h0.lt
  refine ⟨(hb.block g hg).trans h.1, C_move h.2.1 fun ad ha hn => hb.block _ ?_, h.2.2⟩
  obtain ⟨a0, h1, e1⟩ := Off.sub ho h0.cell0 h.cell0 hg ad ha
  rw [e1]
  subst h1
  exact C_ltA h0.C (by omega)
theorem RdR.setX {W : World} {g p c : Nat} {A : Option Addr} {l : List Int} {e : Int} {cs : Array Value} {t : TypeId} (h : RdR W g A l c e) (hb : W.heap[p]? = some (.cells cs t (0, 0))) (hno : ∀ v ∈ cs.toList, ∀ x, v ≠ .int .u8 x) (hne : g ≠ p) (j : Nat) (u : Value) : RdR (W.setCell ⟨p, j, none⟩ u) g A l c e :=
  ⟨blk_far h.1 hne u, Kd.C_keep (d := (0 : Int)) h.2.1 ((KeepBut.refl W p none).set_ j u) (C_apartX hb hno h.2.1), h.2.2⟩
/-- The bits of a byte, as whole numbers. -/
def bitI (x : Int) (j : Nat) : Int := x / ((2 ^ j : Nat) : Int) % 2
def bitsL (x : Int) (k : Nat) : List Int := (List.range k).map (bitI x)
theorem bitsL_len (x : Int) (k : Nat) : (bitsL x k).length = k := by simp [bitsL]
theorem bitsL_snoc (x : Int) (k : Nat) : bitsL x (k + 1) = bitsL x k ++ [bitI x k] := by simp [bitsL, List.range_succ]
theorem bitsL_rd (x : Int) (k i : Nat) (h : i < k) : rd (bitsL x k) (i : Int) = bitI x i := by
  unfold rd bitsL
  simp [List.getD_eq_getElem?_getD, h]
theorem bit_small : ∀ (x : Fin 256) (n : Fin 9), (∀ j : Fin 8, n.val ≤ j.val → (x.val : Int) / ((2 ^ j.val : Nat) : Int) % 2 ≠ 1) ↔ (x.val : Int) < ((2 ^ n.val : Nat) : Int) := by decide +kernel
theorem bits_small {x : Int} (h0 : 0 ≤ x) (h1 : x < 256) {n : Nat} (hn : n ≤ 8) : (∀ j, n ≤ j → j < 8 → bitI x j ≠ 1) ↔ x < ((2 ^ n : Nat) : Int) := by
  have := bit_small ⟨x.toNat, by omega⟩ ⟨n, by omega⟩
  rw [show ((x.toNat : Nat) : Int) = x by omega] at this
  rw [← this]
  exact ⟨fun h j hj => h j.val hj j.isLt, fun h j h2 h3 => h ⟨j, h3⟩ h2⟩
theorem bitI_01 (x : Int) (j : Nat) : bitI x j = 0 ∨ bitI x j = 1 := by unfold bitI; omega
def ReadPost (w : World) (g : Nat) (cs : List Col) (l0 : List Int) (e0 : Int) (r : Ending) (w' : World) : Prop :=
  (∃ A l c e, RdR w' g A l c e ∧ (okB cs (byteV l0 e0) (byteL l0 e0) (byteE l0 e0) = true → l = (rowR cs (byteV l0 e0) (byteL l0 e0) (byteE l0 e0)).2.1)) ∧ Off g w w' ∧ TakeR (okB cs (byteV l0 e0) (byteL l0 e0) (byteE l0 e0)) (rowR cs (byteV l0 e0) (byteL l0 e0) (byteE l0 e0)).1 r w'
/-- The bits that were read so far. -/
def NullS (w : World) (g : Nat) (x : Int) (l1 : List Int) (e1 : Int) (k : Nat) (v8 : Value) (wr : World) : Prop :=
  (∃ A c, RdR wr g A l1 c e1) ∧ Off g w wr ∧ Kd.R (Kd.int .i64) 3 wr w.heap.size (fun k => w.heap.size ≤ k) v8 (bitsL x k)
def RelO (w : World) (g : Nat) (x : Int) (l1 : List Int) (e1 : Int) (v8 v9 : Value) (wr : World) : Prop :=
  (v9 = .int .i64 0 ∧ v8 = .slice none 0 0 ∧ wr = w) ∨ (v9 = .int .i64 1 ∧ NullS w g x l1 e1 8 v8 wr)
def RelI (w : World) (g : Nat) (x : Int) (l1 : List Int) (e1 : Int) (v8 v10 v11 : Value) (wr : World) : Prop :=
  ∃ k : Nat, v11 = .int .i64 (k : Int) ∧ k ≤ 8 ∧ v10 = .int .i64 (x / ((2 ^ k : Nat) : Int)) ∧ NullS w g x l1 e1 k v8 wr
theorem cols_offR {W W1 : World} {g c : Nat} {A B : Option Addr} {l : List Int} {e : Int} {cs : List Col} (h : RdR W g A l c e) (hC : Kd.C k69 W B cs.length cs) (ho : Off g W W1) : Kd.C k69 W1 B cs.length cs := by
  refine Kd.C_foot_ne (fun h => h) hC (fun ad hB hn => ?_) W1 ho.keep
  obtain ⟨ad2, pp, e2, hpp, p0, _, _⟩ := C3c hC 0 hn
  rw [hB] at e2
  injection e2 with e2
  subst e2
  have := col_ne h.1 p0
  rw [← hpp, add_block] at this
  exact this
theorem infoI : (Tryd.prog.info? 3).map (fun i => (i.zero, i.size, i.bytes)) = some (some (.int .i64 0), 1, 8) := by kernel_rfl
/-- Within a round of the values. -/
structure MidR (w : World) (g : Nat) (x : Int) (v8 v12 : Value) (out : List V) (g2 : Nat) (A : Option Addr) (l : List Int) (c : Nat) (e : Int) (vv : V) (W : World) : Prop where
  rd : RdR W g A l c e
  off : Off g w W
  nul : Kd.R (Kd.int .i64) 3 W w.heap.size (fun k => k ≠ g2 ∧ w.heap.size ≤ k) v8 (bitsL x 8)
  row : Kd.R k51 51 W w.heap.size (fun k => k ≠ g2 ∧ w.heap.size ≤ k) v12 out
  vb : W.heap[g2]? = some (blkV vv)
  lt : g < w.heap.size
  h2 : w.heap.size ≤ g2
variable {w W W1 : World} {g g2 c c' : Nat} {x e e' : Int} {v8 v12 : Value} {out : List V} {A A' : Option Addr} {l l' : List Int} {vv vv' : V}
theorem MidR.read (h : MidR w g x v8 v12 out g2 A l c e vv W) (hr : RdR W1 g A' l' c' e') (ho : Off g W W1) : MidR w g x v8 v12 out g2 A' l' c' e' vv W1 :=
  ⟨hr, h.off.trans ho, Kd.R_keep h.nul ho.keep (fun k hk => by have := h.lt; have := hk.2; omega), Kd.R_keep h.row ho.keep (fun k hk => by have := h.lt; have := hk.2; omega), ho.keep.blk h.vb (by have := h.lt; have := h.h2; omega) (by simp), h.lt, h.h2⟩
theorem MidR.set (h : MidR w g x v8 v12 out g2 A l c e vv W) (j : Nat) (u : Value) (he : (W.setCell ⟨g2, j, none⟩ u).heap[g2]? = some (blkV vv')) : MidR w g x v8 v12 out g2 A l c e vv' (W.setCell ⟨g2, j, none⟩ u) := by
  have hne : g ≠ g2 := by have := h.lt; have := h.h2; omega
  have no : ∀ v ∈ (#[Value.int .i64 vv.f0, .int .i64 vv.f1, .string vv.f2] : Array Value).toList, ∀ y, v ≠ .int .u8 y := by
    intro v hv y e
    simp at hv
    rcases hv with rfl | rfl | rfl <;> cases e
  exact ⟨RdR.setX h.rd h.vb no hne j u, Off.far h.off h.h2 h.lt _, Kd.R_far h.nul (p := ⟨g2, j, none⟩) (fun k hk => hk.1) _, Kd.R_far h.row (p := ⟨g2, j, none⟩) (fun k hk => hk.1) _, he, h.lt, h.h2⟩
theorem MidR.set0 (h : MidR w g x v8 v12 out g2 A l c e vv W) (k : Int) : MidR w g x v8 v12 out g2 A l c e ⟨k, vv.f1, vv.f2⟩ (W.setCell ⟨g2, 0, none⟩ (.int .i64 k)) := h.set 0 _ (blk_put h.vb 0 _ rfl)
theorem MidR.set1 (h : MidR w g x v8 v12 out g2 A l c e vv W) (k : Int) : MidR w g x v8 v12 out g2 A l c e ⟨vv.f0, k, vv.f2⟩ (W.setCell ⟨g2, 1, none⟩ (.int .i64 k)) := h.set 1 _ (blk_put h.vb 1 _ rfl)
theorem MidR.set2 (h : MidR w g x v8 v12 out g2 A l c e vv W) (k : ByteArray) : MidR w g x v8 v12 out g2 A l c e ⟨vv.f0, vv.f1, k⟩ (W.setCell ⟨g2, 2, none⟩ (.string k)) := h.set 2 _ (blk_put h.vb 2 _ rfl)
theorem rows_ne (hn : Kd.R (Kd.int .i64) 3 W w.heap.size (fun k => k ≠ g2 ∧ w.heap.size ≤ k) v8 (bitsL x 8)) {ok : Nat → Prop} (hr : Kd.R k51 51 W w.heap.size ok v12 out) : ∀ k, v12.ownBlock = some k → some k ≠ v8.ownBlock := by
  intro k hk he
  obtain ⟨c1, h1⟩ := Kd.R_typed hr k hk
  obtain ⟨c2, h2⟩ := Kd.R_typed hn k he.symm
  rw [h1] at h2
  injection h2 with h2
  injection h2 with _ h3
  cases h3
def RelL (w : World) (g : Nat) (cs : List Col) (x : Int) (l1 : List Int) (e1 : Int) (v8 v12 v13 : Value) (wr : World) : Prop :=
  ∃ (i : Nat) (out : List V) (l : List Int) (e : Int) (A : Option Addr) (c : Nat), v13 = .int .i64 (i : Int) ∧ i ≤ 8 ∧ At cs x l1 e1 (min i cs.length) out l e ∧ (∀ j, cs.length ≤ j → j < i → bitI x j ≠ 1) ∧ RdR wr g A l c e ∧ Off g w wr ∧
    Kd.R (Kd.int .i64) 3 wr w.heap.size (fun k => w.heap.size ≤ k) v8 (bitsL x 8) ∧ Kd.R k51 51 wr w.heap.size (fun k => w.heap.size ≤ k) v12 out
set_option maxHeartbeats 4000000 in
set_option maxRecDepth 100000 in
theorem read_calls (w : World) (g : Nat) (A0 : Option Addr) (l0 : List Int) (c0 : Nat) (e0 : Int) (h : RdR w g A0 l0 c0 e0) (hb : ∀ x ∈ l0, 0 ≤ x ∧ x < 256) (B : Option Addr) (d : Nat) (cs : List Col) (hC : Kd.C k69 w B cs.length cs) (hd : cs.length ≤ d)
    (h1 : 1 ≤ cs.length) (h8 : cs.length ≤ 8) (hk : ∀ c ∈ cs, 1 ≤ c.f1 ∧ c.f1 ≤ 4) :
    Calls Tryd.prog 16 #[.pointer (some ⟨g, 0, none⟩), .slice B cs.length d] w fun r w' => ReadPost w g cs l0 e0 r w' := by
  have H := Aside0.mk h
  have HB := Aside0.mk hb
  have HC := Aside0.mk hC
  have HK := Aside0.mk hk
  have hgl := h.lt
  have hl31 : cs.length ≤ 9223372036854775807 := hC.2.1
  have hxr := byteV_range hb e0
  obtain ⟨x, hx⟩ : ∃ x, byteV l0 e0 = x := ⟨_, rfl⟩
  obtain ⟨l1, hl1⟩ : ∃ l, byteL l0 e0 = l := ⟨_, rfl⟩
  obtain ⟨e1, he1⟩ : ∃ e, byteE l0 e0 = e := ⟨_, rfl⟩
  rw [hx] at hxr
  have HP : Aside0 (∀ r w', ReadPost w g cs l0 e0 r w' ↔ ((∃ A l c e, RdR w' g A l c e ∧ (okB cs x l1 e1 = true → l = (rowR cs x l1 e1).2.1)) ∧ Off g w w' ∧ TakeR (okB cs x l1 e1) (rowR cs x l1 e1).1 r w')) := ⟨fun r w' => by unfold ReadPost; rw [hx, hl1, he1]⟩
  have HS1 : Aside0 (l1 <:+ l0) := ⟨by rw [← hl1]; exact byteL_suffix l0 e0⟩
  have HLE1 : Aside0 (l1.length ≤ l0.length) := ⟨HS1.out.length_le⟩
  have HX := Aside0.mk hx
  have HL1 := Aside0.mk hl1
  have HE1 := Aside0.mk he1
  clear h hb hC hk hx hl1 he1
  go_enter Tryd.func16, Tryd.ntmps16
  go_wp2
  go_loopw [8, 9] (fun v8 v9 wr => RelO w g x l1 e1 v8 v9 wr) (fun _ v9 _ => (1 - intOf v9).toNat)
  case atStart => exact .inl ⟨rfl, rfl, rfl⟩
  case round =>
    rcases hrel with ⟨rfl, rfl, hw0⟩ | ⟨rfl, hnull⟩
    · subst hw0
      obtain ⟨wo, rfl⟩ : ∃ wo : World, wo = wr := ⟨_, rfl⟩
      go_wp2_with (first | (go_at_call 43; refine (rbyte_calls _ g A0 l0 c0 e0 H.out HB.out).mono ?_; rintro r w1 ⟨A1, c1, rfl, hr, ho⟩; rw [HX.out]; rw [HL1.out, HE1.out] at hr; have HR1 := Aside0.mk hr; have HO1 := Aside0.mk ho; clear hr ho))
      have HN0 : Aside0 (NullS wo g x l1 e1 0 (.slice none 0 0) w1) := ⟨⟨⟨A1, c1, HR1.out⟩, HO1.out, Kd.R_nil _ _ _ _ _⟩⟩
      go_loopw [8, 10, 11] (fun v8 v10 v11 wi => RelI wo g x l1 e1 v8 v10 v11 wi) (fun _ _ v11 _ => (8 - intOf v11).toNat)
      case atStart => exact ⟨0, rfl, by omega, by simp, HN0.out⟩
      case round =>
        obtain ⟨k, rfl, hk8, rfl, ⟨A2, c2, hr2⟩, ho2, hR2⟩ := hrel
        have HR2 := Aside0.mk hr2
        have HO2 := Aside0.mk ho2
        have HRN := Aside0.mk hR2
        clear hr2 ho2 hR2
        by_cases hk7 : k < 8
        · have d1 : decide ((k : Int) < 8) = true := decide_eq_true (by omega)
          have hyr := range_div hxr.1 hxr.2 k
          have HS8 : Aside0 (bitsL x (k + 1) = bitsL x k ++ [x / ((2 ^ k : Nat) : Int) % 2]) := ⟨bitsL_snoc x k⟩
          have HH : Aside0 (x / ((2 ^ (k + 1) : Nat) : Int) = x / ((2 ^ k : Nat) : Int) / 2) := ⟨(half x k).symm⟩
          generalize x / ((2 ^ k : Nat) : Int) = y at hyr HS8 HH ⊢
          go_wp2_with (at_builtin; refine Kd.R_append (Kd.int .i64) (w0 := wr) wo.heap.size rfl (.tmp 32) (.tmp 35) 74 3 (.int .i64 0) 8 rfl Tryd.underlying74 infoI rfl (by decide) (by omega) u8 (bitsL x k) (y % 2) [.int .i64 (y % 2)] (fun k => wo.heap.size ≤ k) (fun _ => False) rfl rfl ?aP (fun _ hk => hk.elim) ?aF ?aO ?aB ?aS ?aL ?_)
          case aP => exact rfl
          case aF => exact fun k hk => by have := HO2.out.keep.1; omega
          case aO => exact HRN.out
          case aB => exact Below.refl _ _
          case aS => exact HO2.out.keep.1
          case aL => rw [bitsL_len]; omega
          intro v5 w9 ho hb hgr _
          rw [← HS8.out] at ho
          have HR9 := Aside0.mk ho
          have HRD9 := Aside0.mk (RdR.keepB HR2.out HO2.out H.out HLE1.out hb)
          have HO9 := Aside0.mk (Off.keepB HO2.out hgl hb)
          clear ho hb hgr
          go_wp2
          go_roundw
          case rel => exact ⟨k + 1, by go_num, by omega, by rw [HH.out], ⟨_, _, HRD9.out⟩, HO9.out, HR9.out⟩
          case measure => simp [intOf]; omega
        · obtain rfl : k = 8 := by omega
          go_wp2
          go_roundw
          case rel => exact .inr ⟨rfl, ⟨_, _, HR2.out⟩, HO2.out, HRN.out⟩
          case measure => simp [intOf]
    · obtain ⟨wo, rfl⟩ : ∃ wo : World, wo = wr := ⟨_, rfl⟩
      obtain ⟨⟨A1, c1, hr1⟩, ho1, hR1⟩ := hnull
      have HR1 := Aside0.mk hr1
      have HO1 := Aside0.mk ho1
      obtain ⟨gn, cn, hform, hgn, hgnl, _⟩ := Kd.R_form hR1 (by rw [bitsL_len]; omega)
      rw [bitsL_len] at hform
      subst hform
      have HRN := Aside0.mk hR1
      have d1 : decide ((1 : Int) < ((cs.length : Int) + 7) / 8) = false := decide_eq_false (by omega)
      clear hr1 ho1 hR1 hgnl
      go_wp2_with fail
      go_loopw [12, 13] (fun v12 v13 wl => RelL w g cs x l1 e1 (.slice (some ⟨gn, 0, none⟩) 8 cn) v12 v13 wl) (fun _ v13 _ => (8 - intOf v13).toNat)
      case atStart => exact ⟨0, [], l1, e1, A1, c1, rfl, by omega, by rw [Nat.zero_min]; exact At.start cs x l1 e1, fun j _ h => by omega, HR1.out, HO1.out, HRN.out, Kd.R_nil _ _ _ _ _⟩
      case round =>
        obtain ⟨i, out, l, e, A, c, rfl, hi, ha, hz, hr, ho, hn, hR⟩ := hrel
        have HA2 := Aside0.mk ha
        have HZ := Aside0.mk hz
        have HR2 := Aside0.mk hr
        have HO2 := Aside0.mk ho
        have HN2 := Aside0.mk hn
        have HRW := Aside0.mk hR
        clear ha hz hr ho hn hR
        by_cases hi8 : i < 8
        · have d2 : decide ((i : Int) < 8) = true := decide_eq_true (by omega)
          have hn8 : Kd.R (Kd.int .i64) 3 wr w.heap.size (fun k => w.heap.size ≤ k) (.slice (some ⟨gn, 0, none⟩) (bitsL x 8).length cn) (bitsL x 8) := by rw [bitsL_len]; exact HN2.out
          have hcell := (Kd.R_cell (enc := Value.int .i64) (h1 := fun _ => rfl) 0 hn8 (i : Int) (by omega) (by rw [bitsL_len]; omega)).1
          rw [show rdOf 0 (bitsL x 8) (i : Int) = bitI x i from bitsL_rd x 8 i hi8, Int.toNat_natCast] at hcell
          clear hn8
          by_cases hin : i < cs.length
          · have d3 : decide ((i : Int) ≥ (cs.length : Int)) = false := decide_eq_false (by omega)
            have hni : ¬ cs.length ≤ i := by omega
            have HBL : Aside0 (∀ y ∈ l, 0 ≤ y ∧ y < 256) := ⟨suffix_mem (HA2.out.suf.trans HS1.out) HB.out⟩
            obtain ⟨ad, pp, rfl, hpp, p0, p1, p2⟩ := C3c HC.out i hin
            have hne := col_ne H.out.1 p0
            have q1 := cell_off p1 hne HO2.out
            have hkk := HK.out _ (col_mem cs i hin)
            obtain ⟨⟨s, k, nb⟩, hcol⟩ : ∃ u, rd_T69 cs (i : Int) = u := ⟨_, rfl⟩
            rw [hcol] at q1 hkk
            dsimp only at q1 hkk
            obtain ⟨⟨⟨a, b, t⟩, l2, e2⟩, hone⟩ : ∃ r, oneR (x / ((2 ^ i : Nat) : Int)) k l e = r := ⟨_, rfl⟩
            have hone2 : oneR (x / ((2 ^ i : Nat) : Int)) (rd_T69 cs (i : Int)).f1 l e = (⟨a, b, t⟩, l2, e2) := by rw [hcol]; exact hone
            have hmin : min i cs.length = i := by omega
            have hmin2 : min (i + 1) cs.length = i + 1 := by omega
            have ha0 := HA2.out
            rw [hmin] at ha0
            have HNX : Aside0 (At cs x l1 e1 (min (i + 1) cs.length) (out ++ [⟨a, b, t⟩]) l2 e2) := ⟨by rw [hmin2]; exact ha0.next hin hone2⟩
            have HLE : Aside0 (l2.length ≤ l0.length) := ⟨(HNX.out.suf.trans HS1.out).length_le⟩
            clear hcol p0 p1 p2 hne hone2 hmin hmin2 ha0
            go_upto_region 21 with fail
            have hbw := below_alloc (Below.refl wr.heap.size wr) (blkV nullV)
            have hw0 := HO2.out.keep.1
            have MID : Aside0 (MidR w g x (.slice (some ⟨gn, 0, none⟩) 8 cn) u12 out wr.heap.size A l c e nullV (wr.alloc (blkV nullV))) :=
              ⟨⟨HR2.out.below hbw, Off.below' HO2.out hgl hbw, Kd.R_mono (Kd.R_below (Kd.R_bound HN2.out) hbw) (fun k hk => ⟨by have := hk.2.2.1; omega, hk.1⟩), Kd.R_mono (Kd.R_below (Kd.R_bound HRW.out) hbw) (fun k hk => ⟨by have := hk.2.2.1; omega, hk.1⟩), blk_new wr _, hgl, hw0⟩⟩
            have hc2 := pw_cell_below hbw hcell
            have q1b := pw_cell_below hbw q1
            change Code.wp _ _ _ _ (wr.alloc (blkV nullV))
            generalize wr.alloc (blkV nullV) = W at MID hc2 q1b ⊢
            generalize wr.heap.size = g2 at MID ⊢
            clear hbw hw0 hcell q1 HR2 HO2 HN2 HRW
            rcases bitI_01 x i with hbit | hbit
            · rw [hbit] at hc2
              have hz : oneR (x / ((2 ^ i : Nat) : Int)) k l e = valR k l e := by
                unfold oneR
                rw [if_neg (by unfold bitI at hbit; omega)]
              rw [hz] at hone
              clear hz hbit
              have z0 := blk_frozen MID.out.vb 0
              have y0 := (blk_cell MID.out.vb 0).trans rfl
              go_upto_region 23 with fail
              have M2 := Aside0.mk (MID.out.set0 k)
              clear z0 y0 hc2 q1b MID
              generalize W.setCell ⟨g2, 0, none⟩ (.int .i64 k) = W2 at M2 ⊢
              have y0 := (blk_cell M2.out.vb 0).trans rfl
              have hkc : k = 1 ∨ k = 2 ∨ (k ≠ 1 ∧ k ≠ 2) := by omega
              rcases hkc with rfl | rfl | ⟨hk1, hk2⟩
              · unfold valR at hone
                rw [if_pos rfl] at hone
                simp only [Prod.mk.injEq, S51.mk.injEq] at hone
                obtain ⟨⟨rfl, hb', rfl⟩, hl', he'⟩ := hone
                have HB' := Aside0.mk hb'
                have HL' := Aside0.mk hl'
                have HE' := Aside0.mk he'
                clear hb' hl' he'
                go_upto_region 29 with (first | (go_at_call 43; refine (rbyte_calls _ g A l c e M2.out.rd HBL.out).mono ?_; rintro r w5 ⟨A', c', rfl, hr, ho⟩; rw [HB'.out]; rw [HL'.out, HE'.out] at hr; have M5 := Aside0.mk (M2.out.read hr ho); have y1 := (blk_cell M5.out.vb 1).trans rfl; have z1 := blk_frozen M5.out.vb 1; clear hr ho))
                have MR := Aside0.mk (M5.out.set1 b)
                clear y1 z1 M5
                generalize w5.setCell ⟨g2, 1, none⟩ (.int .i64 b) = W6 at MR ⊢
                have q0 := (blk_cell MR.out.vb 0).trans rfl
                have q1 := (blk_cell MR.out.vb 1).trans rfl
                have q2 := (blk_cell MR.out.vb 2).trans rfl
                go_wp2_with (at_builtin; refine Kd.R_append k51 (w0 := W6) w.heap.size rfl (.tmp 80) (.tmp 82) 35 51 (.agg #[(.int .i64 0), (.int .i64 0), (.string ⟨#[]⟩)]) 32 rfl Tryd.underlying35 info51 rfl (by decide) (by omega) u12 out (⟨1, b, ⟨#[]⟩⟩ : V) [.int .i64 (1), .int .i64 (b), .string ⟨#[]⟩] (fun k => w.heap.size ≤ k) (fun _ => False) rfl rfl ?aP (fun _ hk => hk.elim) ?aF ?aO ?aB ?aS ?aL ?_)
                case aP => exact k51_mkM _ _ _ (⟨1, b, ⟨#[]⟩⟩ : V)
                case aF => exact fun k hk => by have := MR.out.h2; have := blk_lt MR.out.vb; omega
                case aO => exact Kd.R_mono MR.out.row (fun k hk => hk.2)
                case aB => exact Below.refl _ _
                case aS => have := MR.out.h2; have := blk_lt MR.out.vb; omega
                case aL => have := HA2.out.len; omega
                intro v5 w9 ho hb hgr _
                have HR9 := Aside0.mk ho
                have HRD9 := Aside0.mk (RdR.keepB MR.out.rd MR.out.off H.out HLE.out hb)
                have HO9 := Aside0.mk (Off.keepB MR.out.off hgl hb)
                have HN9 := Aside0.mk (Kd.R_mono (Kd.R_grown2 MR.out.nul rfl hgr (rows_ne MR.out.nul MR.out.row)) (fun k hk => hk.2))
                clear ho hb hgr q0 q1 q2
                go_wp2
                go_roundw
                case rel => exact ⟨i + 1, out ++ [⟨1, b, ⟨#[]⟩⟩], l2, e2, _, _, by go_num, by omega, HNX.out, fun j h1 h2 => by omega, HRD9.out, HO9.out, HN9.out, HR9.out⟩
                case measure => simp [intOf]; omega
              · unfold valR at hone
                rw [if_neg (by decide), if_pos rfl] at hone
                simp only [Prod.mk.injEq, S51.mk.injEq] at hone
                obtain ⟨⟨rfl, hb', rfl⟩, hl', he'⟩ := hone
                have HB' := Aside0.mk hb'
                have HL' := Aside0.mk hl'
                have HE' := Aside0.mk he'
                clear hb' hl' he'
                go_upto_region 29 with (first | (go_at_call 44; refine (rsigned_calls _ g A l c e M2.out.rd HBL.out).mono ?_; rintro r w5 ⟨A', c', rfl, hr, ho⟩; rw [HB'.out]; rw [HL'.out, HE'.out] at hr; have M5 := Aside0.mk (M2.out.read hr ho); have y1 := (blk_cell M5.out.vb 1).trans rfl; have z1 := blk_frozen M5.out.vb 1; clear hr ho))
                have MR := Aside0.mk (M5.out.set1 b)
                clear y1 z1 M5
                generalize w5.setCell ⟨g2, 1, none⟩ (.int .i64 b) = W6 at MR ⊢
                have q0 := (blk_cell MR.out.vb 0).trans rfl
                have q1 := (blk_cell MR.out.vb 1).trans rfl
                have q2 := (blk_cell MR.out.vb 2).trans rfl
                go_wp2_with (at_builtin; refine Kd.R_append k51 (w0 := W6) w.heap.size rfl (.tmp 80) (.tmp 82) 35 51 (.agg #[(.int .i64 0), (.int .i64 0), (.string ⟨#[]⟩)]) 32 rfl Tryd.underlying35 info51 rfl (by decide) (by omega) u12 out (⟨2, b, ⟨#[]⟩⟩ : V) [.int .i64 (2), .int .i64 (b), .string ⟨#[]⟩] (fun k => w.heap.size ≤ k) (fun _ => False) rfl rfl ?aP (fun _ hk => hk.elim) ?aF ?aO ?aB ?aS ?aL ?_)
                case aP => exact k51_mkM _ _ _ (⟨2, b, ⟨#[]⟩⟩ : V)
                case aF => exact fun k hk => by have := MR.out.h2; have := blk_lt MR.out.vb; omega
                case aO => exact Kd.R_mono MR.out.row (fun k hk => hk.2)
                case aB => exact Below.refl _ _
                case aS => have := MR.out.h2; have := blk_lt MR.out.vb; omega
                case aL => have := HA2.out.len; omega
                intro v5 w9 ho hb hgr _
                have HR9 := Aside0.mk ho
                have HRD9 := Aside0.mk (RdR.keepB MR.out.rd MR.out.off H.out HLE.out hb)
                have HO9 := Aside0.mk (Off.keepB MR.out.off hgl hb)
                have HN9 := Aside0.mk (Kd.R_mono (Kd.R_grown2 MR.out.nul rfl hgr (rows_ne MR.out.nul MR.out.row)) (fun k hk => hk.2))
                clear ho hb hgr q0 q1 q2
                go_wp2
                go_roundw
                case rel => exact ⟨i + 1, out ++ [⟨2, b, ⟨#[]⟩⟩], l2, e2, _, _, by go_num, by omega, HNX.out, fun j h1 h2 => by omega, HRD9.out, HO9.out, HN9.out, HR9.out⟩
                case measure => simp [intOf]; omega
              · unfold valR at hone
                rw [if_neg hk1, if_neg hk2] at hone
                simp only [Prod.mk.injEq, S51.mk.injEq] at hone
                obtain ⟨⟨rfl, rfl, hb'⟩, hl', he'⟩ := hone
                have HB' := Aside0.mk hb'
                have HL' := Aside0.mk hl'
                have HE' := Aside0.mk he'
                have c1 : (k == 1) = false := beq_eq_false_iff_ne.2 hk1
                have c2 : (k == 2) = false := beq_eq_false_iff_ne.2 hk2
                clear hb' hl' he' hk1 hk2
                go_upto_region 29 with (first | (go_at_call 45; refine (rtext_calls _ g A l c e 4096 M2.out.rd HBL.out).mono ?_; rintro r w5 ⟨A', c', rfl, hr, ho⟩; rw [HB'.out]; rw [HL'.out, HE'.out] at hr; have M5 := Aside0.mk (M2.out.read hr ho); have y1 := (blk_cell M5.out.vb 2).trans rfl; have z1 := blk_frozen M5.out.vb 2; clear hr ho))
                have MR := Aside0.mk (M5.out.set2 t)
                clear y1 z1 M5
                generalize w5.setCell ⟨g2, 2, none⟩ (.string t) = W6 at MR ⊢
                have q0 := (blk_cell MR.out.vb 0).trans rfl
                have q1 := (blk_cell MR.out.vb 1).trans rfl
                have q2 := (blk_cell MR.out.vb 2).trans rfl
                go_wp2_with (at_builtin; refine Kd.R_append k51 (w0 := W6) w.heap.size rfl (.tmp 80) (.tmp 82) 35 51 (.agg #[(.int .i64 0), (.int .i64 0), (.string ⟨#[]⟩)]) 32 rfl Tryd.underlying35 info51 rfl (by decide) (by omega) u12 out (⟨k, 0, t⟩ : V) [.int .i64 (k), .int .i64 (0), .string t] (fun k => w.heap.size ≤ k) (fun _ => False) rfl rfl ?aP (fun _ hk => hk.elim) ?aF ?aO ?aB ?aS ?aL ?_)
                case aP => exact k51_mkM _ _ _ (⟨k, 0, t⟩ : V)
                case aF => exact fun k hk => by have := MR.out.h2; have := blk_lt MR.out.vb; omega
                case aO => exact Kd.R_mono MR.out.row (fun k hk => hk.2)
                case aB => exact Below.refl _ _
                case aS => have := MR.out.h2; have := blk_lt MR.out.vb; omega
                case aL => have := HA2.out.len; omega
                intro v5 w9 ho hb hgr _
                have HR9 := Aside0.mk ho
                have HRD9 := Aside0.mk (RdR.keepB MR.out.rd MR.out.off H.out HLE.out hb)
                have HO9 := Aside0.mk (Off.keepB MR.out.off hgl hb)
                have HN9 := Aside0.mk (Kd.R_mono (Kd.R_grown2 MR.out.nul rfl hgr (rows_ne MR.out.nul MR.out.row)) (fun k hk => hk.2))
                clear ho hb hgr q0 q1 q2
                go_wp2
                go_roundw
                case rel => exact ⟨i + 1, out ++ [⟨k, 0, t⟩], l2, e2, _, _, by go_num, by omega, HNX.out, fun j h1 h2 => by omega, HRD9.out, HO9.out, HN9.out, HR9.out⟩
                case measure => simp [intOf]; omega
            · rw [hbit] at hc2
              have hz : oneR (x / ((2 ^ i : Nat) : Int)) k l e = (nullV, l, e) := by
                unfold oneR
                rw [if_pos (show x / ((2 ^ i : Nat) : Int) % 2 = 1 from hbit)]
              rw [hz] at hone
              injection hone with h1' h2'
              injection h2' with h2' h3'
              subst h2' h3'
              have HV : Aside0 (nullV = (⟨a, b, t⟩ : V)) := ⟨h1'⟩
              have MR : Aside0 (MidR w g x (.slice (some ⟨gn, 0, none⟩) 8 cn) u12 out g2 A l c e ⟨a, b, t⟩ W) := ⟨HV.out ▸ MID.out⟩
              clear hz hbit HV h1' MID q1b
              have q0 := (blk_cell MR.out.vb 0).trans rfl
              have q1 := (blk_cell MR.out.vb 1).trans rfl
              have q2 := (blk_cell MR.out.vb 2).trans rfl
              go_wp2_with (at_builtin; refine Kd.R_append k51 (w0 := W) w.heap.size rfl (.tmp 80) (.tmp 82) 35 51 (.agg #[(.int .i64 0), (.int .i64 0), (.string ⟨#[]⟩)]) 32 rfl Tryd.underlying35 info51 rfl (by decide) (by omega) u12 out (⟨a, b, t⟩ : V) [.int .i64 (a), .int .i64 (b), .string t] (fun k => w.heap.size ≤ k) (fun _ => False) rfl rfl ?aP (fun _ hk => hk.elim) ?aF ?aO ?aB ?aS ?aL ?_)
              case aP => exact k51_mkM _ _ _ (⟨a, b, t⟩ : V)
              case aF => exact fun k hk => by have := MR.out.h2; have := blk_lt MR.out.vb; omega
              case aO => exact Kd.R_mono MR.out.row (fun k hk => hk.2)
              case aB => exact Below.refl _ _
              case aS => have := MR.out.h2; have := blk_lt MR.out.vb; omega
              case aL => have := HA2.out.len; omega
              intro v5 w9 ho hb hgr _
              have HR9 := Aside0.mk ho
              have HRD9 := Aside0.mk (RdR.keepB MR.out.rd MR.out.off H.out HLE.out hb)
              have HO9 := Aside0.mk (Off.keepB MR.out.off hgl hb)
              have HN9 := Aside0.mk (Kd.R_mono (Kd.R_grown2 MR.out.nul rfl hgr (rows_ne MR.out.nul MR.out.row)) (fun k hk => hk.2))
              clear ho hb hgr q0 q1 q2
              go_wp2
              go_roundw
              case rel => exact ⟨i + 1, out ++ [⟨a, b, t⟩], l, e, _, _, by go_num, by omega, HNX.out, fun j h1 h2 => by omega, HRD9.out, HO9.out, HN9.out, HR9.out⟩
              case measure => simp [intOf]; omega
          · have d3 : decide ((i : Int) ≥ (cs.length : Int)) = true := decide_eq_true (by omega)
            have hni : cs.length ≤ i := by omega
            have hmin : min i cs.length = cs.length := by omega
            have hmin2 : min (i + 1) cs.length = cs.length := by omega
            have ha0 := HA2.out
            rw [hmin] at ha0
            have HNX : Aside0 (At cs x l1 e1 (min (i + 1) cs.length) out l e) := ⟨by rw [hmin2]; exact ha0⟩
            clear hmin hmin2 ha0
            rcases bitI_01 x i with hbit | hbit
            · have HB0 := Aside0.mk hbit
              rw [hbit] at hcell
              clear hbit
              go_wp2
              go_roundw
              case rel => exact ⟨i + 1, out, l, e, A, c, by go_num, by omega, HNX.out, fun j h1 h2 => by
                by_cases hj : j = i
                · subst hj; rw [HB0.out]; decide
                · exact HZ.out j h1 (by omega), HR2.out, HO2.out, HN2.out, HRW.out⟩
              case measure => simp [intOf]; omega
            · have HOK : Aside0 (okB cs x l1 e1 = false) := ⟨by
                unfold okB
                rw [decide_eq_false (fun h => (bits_small hxr.1 hxr.2 h8).2 h i hni hi8 hbit)]
                rfl⟩
              rw [hbit] at hcell
              clear hbit
              go_wp2
              go_ret2
              exact (HP.out _ _).2 ⟨⟨A, l, c, e, HR2.out, fun h => by rw [HOK.out] at h; cases h⟩, HO2.out, by rw [HOK.out]; rfl⟩
        · obtain rfl : i = 8 := by omega
          have hmin : min 8 cs.length = cs.length := by omega
          have ha0 := HA2.out
          rw [hmin] at ha0
          have hfin := ha0.fin
          have hlen := ha0.len
          have hsh := rowR_short cs x l1 e1
          rw [hfin] at hsh
          have HSH : Aside0 (Short out) := ⟨fun v hv => by have := hsh v hv; omega⟩
          have hsm := (bits_small hxr.1 hxr.2 h8).1 (fun j hj h => HZ.out j hj h)
          have HPF : Aside0 (∀ r w', ((∃ A l' c e', RdR w' g A l' c e' ∧ ((decide (e = 0) && fitsB cs out) = true → l' = l)) ∧ Off g w w' ∧ TakeR (decide (e = 0) && fitsB cs out) out r w') → ReadPost w g cs l0 e0 r w') := ⟨fun r w' h => (HP.out r w').2 (by
            unfold okB
            rw [hfin, decide_eq_true hsm, Bool.true_and]
            exact h)⟩
          have HCC := Aside0.mk (cols_offR H.out HC.out HO2.out)
          obtain ⟨A9, c9, rfl, hc9, hC9⟩ := Kd.R_reads HRW.out
          have HC9 := Aside0.mk hC9
          have HCC9 := Aside0.mk hc9
          have hl9 : out.length ≤ 1000 := by omega
          have x1 := HR2.out.cell1
          clear hfin hlen hsh hC9 hc9 hmin ha0 hsm HP HA2
          obtain ⟨fb, hfb⟩ : ∃ fb, fitsB cs out = fb := ⟨_, rfl⟩
          have HFB := Aside0.mk hfb
          clear hfb
          by_cases he : e = 0
          · subst he
            have c5 : ((0 : Int) != 0) = false := rfl
            cases fb with
            | false =>
              go_wp2_with (first | (go_at_call 46; refine (reffits_calls wr B A9 d c9 cs 0 out HCC.out hd HC9.out HCC9.out (by omega) HSH.out).mono ?_; rintro e w6 ⟨rfl, hb6⟩; rw [HFB.out]; have HB6 := Aside0.mk hb6; have x6 := pw_cell_below hb6 x1; clear hb6))
              go_ret2
              exact HPF.out _ _ ⟨⟨A, l, c, 0, HR2.out.below HB6.out, fun _ => rfl⟩, Off.below' HO2.out hgl HB6.out, by rw [HFB.out]; rfl⟩
            | true =>
              go_wp2_with (first | (go_at_call 46; refine (reffits_calls wr B A9 d c9 cs 0 out HCC.out hd HC9.out HCC9.out (by omega) HSH.out).mono ?_; rintro e w6 ⟨rfl, hb6⟩; rw [HFB.out]; have HB6 := Aside0.mk hb6; have x6 := pw_cell_below hb6 x1; clear hb6))
              go_ret2
              exact HPF.out _ _ ⟨⟨A, l, c, 0, HR2.out.below HB6.out, fun _ => rfl⟩, Off.below' HO2.out hgl HB6.out, by rw [HFB.out]; exact ⟨A9, c9, rfl, HCC9.out, Kd.C_below HC9.out HB6.out⟩⟩
          · have c5 : (e != 0) = true := by rw [bne_iff_ne]; exact he
            have HE := Aside0.mk he
            clear he
            go_wp2_with (first | (go_at_call 46; refine (reffits_calls wr B A9 d c9 cs 0 out HCC.out hd HC9.out HCC9.out (by omega) HSH.out).mono ?_; rintro e w6 ⟨rfl, hb6⟩; rw [HFB.out]; have HB6 := Aside0.mk hb6; have x6 := pw_cell_below hb6 x1; clear hb6))
            go_ret2
            exact HPF.out _ _ ⟨⟨A, l, c, e, HR2.out.below HB6.out, fun _ => rfl⟩, Off.below' HO2.out hgl HB6.out, by rw [decide_eq_false HE.out]; rfl⟩
end Go.Proofs.YtaddlkokencbkaaDoor.Read5
