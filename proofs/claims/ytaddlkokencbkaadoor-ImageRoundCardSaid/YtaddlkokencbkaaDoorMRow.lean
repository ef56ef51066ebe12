/- Texts of this claim, one behind the other: Bits, MapFn, Row. -/
import Derived.Test.YtaddlkokencbkaaDoorMRd
import Derived.Test.YtaddlkokencbkaaDoorWMore
import Derived.Deep.DeepCutAuto
import Derived.Test.YtaddlkokencbkaaDoorProg
import Derived.Maps.Own
import Derived.Maps.OwnOps
import Derived.Test.YtaddlkokencbkaaDoorFits
/- image.bits, by hand: for one to eight columns one byte is read, whose bits are told, unless it has more. -/
namespace Go.Proofs.YtaddlkokencbkaaDoor.Bits
open Go.RowKit Go.Proofs.YtaddlkokencbkaaDoorW.PrintWords Go.Proofs.YtaddlkokencbkaaDoorW.PrintLast Go.Proofs.YtaddlkokencbkaaDoorW.PrintMore Go.Proofs.YtaddlkokencbkaaDoor.Exact Go.Proofs.YtaddlkokencbkaaDoor.Rd Go.Proofs.YtaddlkokencbkaaDoor.RdN
set_option linter.unusedVariables false
set_option linter.unusedSimpArgs false
/-- Bytes that are read lie not in a block that holds none. -/
theorem C_apartX {W : World} {p n : Nat} {cs : Array Value} {t : TypeId} {xs : List Int} (hb : W.heap[p]? = some (.cells cs t (0, 0))) (hno : ∀ v ∈ cs.toList, ∀ x, v ≠ .int .u8 x) {B : Option Addr} (h : Kd.C (Kd.int .u8) W B n xs) : ∀ ad, B = some ad → 0 < n → ad.block ≠ p := by
  rintro ad rfl hn he
  obtain ⟨ad2, us, e2, hl, hk, hc⟩ := Kd.C_get h 0 0 (by omega) (by omega)
  injection e2 with e2
  subst e2
  match us, hl with
  | [u], _ =>
    have h2 := hc 0 u rfl
    have h3 : u = .int .u8 (xs.getD 0 0) := by
      have := hk
      simpa [Kd.int, Kd.scalar] using this
    simp only [World.cell?, Addr.add] at h2
    simp at h2
    rw [he, hb] at h2
    simp at h2
    obtain ⟨_, h2⟩ := h2
    obtain ⟨hlt, h4⟩ := Array.getElem?_eq_some_iff.1 h2
    exact hno u (by rw [← h4]; exact Array.getElem_mem_toList hlt) _ h3
theorem Rd.setX {W : World} {g p c : Nat} {A : Option Addr} {l : List Int} {e : Int} {cs : Array Value} {t : TypeId} (h : Rd W g A l c e) (hb : W.heap[p]? = some (.cells cs t (0, 0))) (hno : ∀ v ∈ cs.toList, ∀ x, v ≠ .int .u8 x) (hne : g ≠ p) (j : Nat) (u : Value) : Rd (W.setCell ⟨p, j, none⟩ u) g A l c e :=
  ⟨blk_far h.1 hne u, Kd.C_keep (d := (0 : Int)) h.2.1 ((KeepBut.refl W p none).set_ j u) (C_apartX hb hno h.2.1), h.2.2⟩
theorem cell0_far {W : World} {g : Nat} {p : Addr} (hp : g ≠ p.block) (u : Value) : (W.setCell p u).cell? ⟨g, 0, none⟩ = W.cell? ⟨g, 0, none⟩ := by
  have : (W.setCell p u).heap[g]? = W.heap[g]? := Below.heap_setCell W p u g hp
  unfold World.cell?
  rw [this]
theorem Off.far {g : Nat} {w W : World} (h : Off g w W) {p : Addr} (hp : w.heap.size ≤ p.block) (hg : g < w.heap.size) (u : Value) : Off g w (W.setCell p u) :=
  ⟨h.os, h.tape, h.output, keep_far h.keep hp u, fun a n c ha h0 => h.same a n c (by rw [cell0_far (by omega)] at ha; exact ha) h0⟩
theorem Off.below' {g : Nat} {w W W1 : World} (h : Off g w W) (hg : g < w.heap.size) (hb : Below W.heap.size W W1) : Off g w W1 :=
  ⟨hb.os.trans h.os, hb.tape.trans h.tape, hb.output.trans h.output, h.keep.trans (KeepBut.of_below hb g none) (.inl rfl), fun a n c ha h0 => h.same a n c (by rw [hb.cell (p := ⟨g, 0, none⟩) (Nat.lt_of_lt_of_le hg h.keep.1)] at ha; exact ha) h0⟩
/-- The bits of a byte, n of them. -/
def bitB (x : Int) (i : Nat) : Bool := decide (x / ((2 ^ i : Nat) : Int) % 2 = 1)
def boolA (n : Nat) (x : Int) (i : Nat) : Array Value := ((List.range n).map fun j => Value.bool (if j < i then bitB x j else false)).toArray
theorem boolA_size (n : Nat) (x : Int) (i : Nat) : (boolA n x i).size = n := by simp [boolA]
theorem boolA_get (n : Nat) (x : Int) (i j : Nat) (h : j < n) : (boolA n x i)[j]? = some (.bool (if j < i then bitB x j else false)) := by
  simp [boolA, h]
theorem boolA_zero (n : Nat) (x : Int) : boolA n x 0 = Array.replicate n (.bool false) := by
  apply Array.ext'
  simp [boolA]
  exact List.ext_getElem (by simp) (fun i h1 h2 => by simp)
theorem boolA_step (n : Nat) (x : Int) (i : Nat) (h : i < n) : (boolA n x i).setIfInBounds i (.bool (bitB x i)) = boolA n x (i + 1) := by
  apply Array.ext
  · simp [boolA]
  · intro j h1 h2
    have hj : j < n := by simpa [boolA] using h2
    by_cases e : i = j
    · subst e
      simp [boolA, Array.getElem_setIfInBounds, hj]
    · rw [Array.getElem_setIfInBounds_ne (by simpa [boolA] using hj) e]
      simp only [boolA, List.getElem_toArray, List.getElem_map, List.getElem_range]
      have : (j < i + 1) = (j < i) := by rw [eq_iff_iff]; omega
      simp only [this]
theorem boolA_no (n : Nat) (x : Int) (i : Nat) : ∀ v ∈ (boolA n x i).toList, ∀ y, v ≠ .int .u8 y := by
  intro v hv y e
  simp only [boolA, List.mem_map] at hv
  obtain ⟨j, _, rfl⟩ := hv
  cases e
theorem info4 : (Tryd.prog.info? 4).map (fun i => (i.zero, i.size, i.bytes)) = some (some (.bool false), 1, 1) := by kernel_rfl
theorem made_bools (n : Nat) : madeCells (Value.bool false).cells (n * 1) = boolA n 0 0 := by
  rw [boolA_zero, Nat.mul_one]
  apply Array.ext
  · simp [size_madeCells]
  · intro j h1 h2
    simp [madeCells, Value.cells, Nat.mod_one]
theorem make_bools (w : World) (n : Nat) (hn : n ≤ 1000) : (Instr.makeSlice 90 (.int .i64 (n : Int)) (.int .i64 (n : Int))).run Tryd.prog w = .ok (.slice (some ⟨w.heap.size, 0, none⟩) n n) (w.alloc (.cells (boolA n 0 0) 4)) := by
  obtain ⟨i0, hi, hz0, hz1, hz2⟩ := info_parts info4
  have hr := run_make (P := Tryd.prog) w 90 4 i0 (.bool false) Tryd.underlying90 hi hz0 .i64 .i64 (n : Int) (n : Int) (by omega) (by omega) (by rw [hz2]; omega) (by omega)
  rw [hz1] at hr
  simp only [Int.toNat_natCast] at hr
  rw [made_bools] at hr
  exact hr
def BitsR (n : Nat) (x : Int) (w : World) (e : Ending) (w' : World) : Prop :=
  if x < ((2 ^ n : Nat) : Int) then ∃ b, e = .returned (.tuple #[.slice (some ⟨b, 0, none⟩) n n, .bool true]) ∧ w'.heap[b]? = some (.cells (boolA n x n) 4 (0, 0)) ∧ w.heap.size ≤ b
  else e = .returned (.tuple #[.slice none 0 0, .bool false])
def BitsPost (w : World) (g n : Nat) (l : List Int) (e x : Int) (r : Ending) (w' : World) : Prop := ∃ A' c', BitsR n x w r w' ∧ Rd w' g A' (byteL l e) c' (byteE l e) ∧ Off g w w'
def RelBits (w : World) (g n : Nat) (A : Option Addr) (l : List Int) (c : Nat) (e x : Int) (v7 v14 : Value) (wr : World) : Prop :=
  ∃ (i : Nat) (y : Int), v14 = .int .i64 (i : Int) ∧ v7 = .int .i64 y ∧ i ≤ n ∧ wr.heap[w.heap.size]? = some (.cells (boolA n x i) 4 (0, 0)) ∧ Off g w wr ∧ (i = n → x < ((2 ^ n : Nat) : Int)) ∧
    ((i = 0 ∧ y = 0 ∧ Rd wr g A l c e) ∨ (0 < i ∧ y = x / ((2 ^ i : Nat) : Int) ∧ ∃ A' c', Rd wr g A' (byteL l e) c' (byteE l e)))
theorem byteV_range {l : List Int} (hb : ∀ x ∈ l, 0 ≤ x ∧ x < 256) (e : Int) : 0 ≤ byteV l e ∧ byteV l e < 256 := by
  unfold byteV
  split
  · cases l with
    | nil => simp
    | cons x l => exact hb x (by simp)
  · omega
theorem and_one : ∀ y : Fin 256, bits .and .i64 (y.val : Int) 1 = (y.val : Int) % 2 := by decide +kernel
theorem and1 {y : Int} (h0 : 0 ≤ y) (h1 : y < 256) : bits .and .i64 y 1 = y % 2 := by
  have := and_one ⟨y.toNat, by omega⟩
  rw [show ((y.toNat : Nat) : Int) = y by omega] at this
  exact this
theorem half (x : Int) (i : Nat) : x / ((2 ^ i : Nat) : Int) / 2 = x / ((2 ^ (i + 1) : Nat) : Int) := by
  rw [Nat.pow_succ, Int.natCast_mul, ← Int.ediv_ediv_of_nonneg (Int.natCast_nonneg _)]
  rfl
theorem small_iff {x : Int} (h0 : 0 ≤ x) (n : Nat) : x / ((2 ^ n : Nat) : Int) = 0 ↔ x < ((2 ^ n : Nat) : Int) := by
  have hp : (0 : Int) < ((2 ^ n : Nat) : Int) := by have := Nat.two_pow_pos n; omega
  constructor
  · intro h
    rcases Int.lt_or_le x ((2 ^ n : Nat) : Int) with h1 | h1
    · exact h1
    · have := Int.ediv_le_ediv hp h1
      rw [Int.ediv_self (by omega)] at this
      omega
  · intro h
    exact Int.ediv_eq_zero_of_lt h0 h
theorem range_div {x : Int} (h0 : 0 ≤ x) (h1 : x < 256) (i : Nat) : 0 ≤ x / ((2 ^ i : Nat) : Int) ∧ x / ((2 ^ i : Nat) : Int) < 256 := by
  have hp : (0 : Int) < ((2 ^ i : Nat) : Int) := by have := Nat.two_pow_pos i; omega
  refine ⟨Int.ediv_nonneg h0 (by omega), ?_⟩
  have := Int.ediv_le_self ((2 ^ i : Nat) : Int) h0
  omega
theorem rel_next {w wr : World} {g n i : Nat} {A A' : Option Addr} {l : List Int} {c c' : Nat} {e x : Int} {b : Bool} (hi : i < n) (hs : wr.heap[w.heap.size]? = some (.cells (boolA n x i) 4 (0, 0))) (hb : bitB x i = b) (ho : Off g w wr) (hg : g < w.heap.size)
    (hr : Rd wr g A' (byteL l e) c' (byteE l e)) (hl : i + 1 = n → x < ((2 ^ n : Nat) : Int)) :
    RelBits w g n A l c e x (.int .i64 (x / ((2 ^ i : Nat) : Int) / 2)) (.int .i64 ((i : Int) + 1)) (wr.setCell ⟨w.heap.size, i, none⟩ (.bool b)) := by
  have h2 := blk_set hs i (.bool b)
  rw [← hb, boolA_step n x i hi, hb] at h2
  exact ⟨i + 1, x / ((2 ^ (i + 1) : Nat) : Int), by go_num, by rw [half], by omega, h2, Off.far ho (Nat.le_refl _) hg _, hl, .inr ⟨by omega, rfl, A', c', Rd.setX hr hs (boolA_no n x i) (by omega) i _⟩⟩
theorem bits_no {w wr : World} {g n i : Nat} {A' : Option Addr} {l : List Int} {c' : Nat} {e x : Int} {b : Bool} (hs : wr.heap[w.heap.size]? = some (.cells (boolA n x i) 4 (0, 0))) (ho : Off g w wr) (hg : g < w.heap.size)
    (hr : Rd wr g A' (byteL l e) c' (byteE l e)) (hl : ¬ x < ((2 ^ n : Nat) : Int)) :
    BitsPost w g n l e x (.returned (.tuple #[.slice none 0 0, .bool false])) (wr.setCell ⟨w.heap.size, i, none⟩ (.bool b)) :=
  ⟨A', c', by unfold BitsR; rw [if_neg hl], Rd.setX hr hs (boolA_no n x i) (by omega) i _, Off.far ho (Nat.le_refl _) hg _⟩
set_option maxHeartbeats 2000000 in
theorem bits_calls (w : World) (g n : Nat) (A : Option Addr) (l : List Int) (c : Nat) (e x : Int) (h : Rd w g A l c e) (hb : ∀ x ∈ l, 0 ≤ x ∧ x < 256) (h1 : 1 ≤ n) (h8 : n ≤ 8) (hx : byteV l e = x) :
    Calls Tryd.prog 67 #[.pointer (some ⟨g, 0, none⟩), .int .i64 (n : Int)] w fun r w' => BitsPost w g n l e x r w' := by
  have H := Aside0.mk h
  have HB := Aside0.mk hb
  have HX := Aside0.mk hx
  have hxr := byteV_range hb e
  rw [hx] at hxr
  have hmk := fun W => make_bools W n (by omega)
  clear h hb hx
  have hs0 := blk_new w (Obj.cells (boolA n x 0) 4)
  have e0 : boolA n 0 0 = boolA n x 0 := by rw [boolA_zero, boolA_zero]
  rw [e0] at hmk
  have HS := Aside0.mk hs0
  have HO := Aside0.mk (Off.below' (Off.refl g w) H.out.lt (below_alloc (Below.refl w.heap.size w) (Obj.cells (boolA n x 0) 4)))
  have HR := Aside0.mk (H.out.below (below_alloc (Below.refl w.heap.size w) (Obj.cells (boolA n x 0) 4)))
  clear hs0 e0
  go_enter Tryd.func67, Tryd.ntmps67
  go_wp2
  go_loopw [7, 14] (fun v7 v14 wr => RelBits w g n A l c e x v7 v14 wr) (fun _ v14 _ => (n - intOf v14).toNat)
  case atStart => exact ⟨0, 0, rfl, rfl, by omega, HS.out, HO.out, fun h => by omega, .inl ⟨rfl, rfl, HR.out⟩⟩
  case round =>
    obtain ⟨i, y, rfl, rfl, hi, hs, ho, hl, hc⟩ := hrel
    have HS1 := Aside0.mk hs
    have HO1 := Aside0.mk ho
    have HL1 := Aside0.mk hl
    clear hs ho hl
    have hgl := H.out.lt
    by_cases hin : i < n
    · have c1 : decide ((i : Int) < (n : Int)) = true := decide_eq_true (by omega)
      rcases hc with ⟨rfl, rfl, hr⟩ | ⟨hi0, rfl, A', c', hr⟩
      · have HR1 := Aside0.mk hr
        obtain ⟨b, hbb⟩ : ∃ b, bitB x 0 = b := ⟨_, rfl⟩
        have eb : (bits .and .i64 x 1 == 1) = b := by
          rw [and1 hxr.1 hxr.2, ← hbb]
          unfold bitB
          simp
          rfl
        have HBB := Aside0.mk hbb
        have E1 : Aside0 (x / ((2 ^ 0 : Nat) : Int) = x) := ⟨by simp⟩
        clear hr hbb
        have HD : Aside0 (¬ (1 = n ∧ x / 2 ≠ 0) → 0 + 1 = n → x < ((2 ^ n : Nat) : Int)) := ⟨fun h hn => by
          have := (small_iff hxr.1 n).1
          rw [← hn, ← half, E1.out] at this
          rw [← hn]
          exact this (by omega)⟩
        have HN : Aside0 (1 = n ∧ x / 2 ≠ 0 → ¬ x < ((2 ^ n : Nat) : Int)) := ⟨fun h hn => by
          have := (small_iff hxr.1 n).2 hn
          rw [← h.1, ← half, E1.out] at this
          exact h.2 this⟩
        by_cases hlast : 1 = n ∧ x / 2 ≠ 0
        · have HN2 := Aside0.mk (HN.out hlast)
          have c3 : ((0 : Int) == (n : Int) - 1) = true := beq_iff_eq.2 (by omega)
          have c4 : (x / 2 != 0) = true := by rw [bne_iff_ne]; exact hlast.2
          clear hlast HN HD
          go_wp2_with (first | (go_at_call 63; refine (byte_calls _ g A l c e HR1.out HB.out).mono ?_; rintro r w5 ⟨A', c', rfl, hr, ho⟩; rw [HX.out]; have HR5 := Aside0.mk hr; have HO5 := Aside0.mk (HO1.out.trans ho); have hs5 := ho.keep.blk HS1.out (by omega) (by simp); have HS5 := Aside0.mk hs5; have xc := (blk_cell hs5 0).trans (boolA_get n x 0 0 (by omega)); have xf := blk_frozen hs5 0; clear hr ho hs5))
          go_ret2
          exact bits_no HS5.out HO5.out hgl HR5.out (Int.not_lt.2 HN2.out)
        · have HD2 := Aside0.mk (HD.out hlast)
          have hla : ((0 : Int) == (n : Int) - 1) = false ∨ ((0 : Int) == (n : Int) - 1) = true ∧ (x / 2 != 0) = false := by
            by_cases h : 1 = n
            · exact .inr ⟨beq_iff_eq.2 (by omega), by simp; omega⟩
            · exact .inl (beq_eq_false_iff_ne.2 (by omega))
          clear hlast HN HD
          rcases hla with c3 | ⟨c3, c4⟩
          all_goals
            go_wp2_with (first | (go_at_call 63; refine (byte_calls _ g A l c e HR1.out HB.out).mono ?_; rintro r w5 ⟨A', c', rfl, hr, ho⟩; rw [HX.out]; have HR5 := Aside0.mk hr; have HO5 := Aside0.mk (HO1.out.trans ho); have hs5 := ho.keep.blk HS1.out (by omega) (by simp); have HS5 := Aside0.mk hs5; have xc := (blk_cell hs5 0).trans (boolA_get n x 0 0 (by omega)); have xf := blk_frozen hs5 0; clear hr ho hs5))
            go_roundw
            case rel =>
              have := rel_next (A := A) (c := c) hin HS5.out HBB.out HO5.out hgl HR5.out HD2.out
              rw [E1.out] at this
              exact this
            case measure => simp [intOf]; omega
      · have c2 : ((i : Int) % 8 == 0) = false := beq_eq_false_iff_ne.2 (by omega)
        have hyr := range_div hxr.1 hxr.2 i
        obtain ⟨b, hbb⟩ : ∃ b, bitB x i = b := ⟨_, rfl⟩
        obtain ⟨y, hy⟩ : ∃ y, x / ((2 ^ i : Nat) : Int) = y := ⟨_, rfl⟩
        rw [hy] at hyr ⊢
        have eb : (bits .and .i64 y 1 == 1) = b := by
          rw [and1 hyr.1 hyr.2, ← hbb]
          unfold bitB
          rw [hy]
          rfl
        have HBB := Aside0.mk hbb
        have HY := Aside0.mk hy
        have HR1 := Aside0.mk hr
        have xc := (blk_cell HS1.out i).trans (boolA_get n x i i hin)
        have xf := blk_frozen HS1.out i
        have HD : Aside0 (¬ (i + 1 = n ∧ y / 2 ≠ 0) → i + 1 = n → x < ((2 ^ n : Nat) : Int)) := ⟨fun h hn => by
          have := (small_iff hxr.1 n).1
          rw [← hn, ← half, hy] at this
          rw [← hn]
          exact this (by omega)⟩
        have HN : Aside0 (i + 1 = n ∧ y / 2 ≠ 0 → ¬ x < ((2 ^ n : Nat) : Int)) := ⟨fun h hn => by
          have := (small_iff hxr.1 n).2 hn
          rw [← h.1, ← half, hy] at this
          exact h.2 this⟩
        clear hr hbb hy
        by_cases hlast : i + 1 = n ∧ y / 2 ≠ 0
        · have HN2 := Aside0.mk (HN.out hlast)
          have c3 : ((i : Int) == (n : Int) - 1) = true := beq_iff_eq.2 (by omega)
          have c4 : (y / 2 != 0) = true := by rw [bne_iff_ne]; exact hlast.2
          clear hlast HN HD
          go_wp2
          go_ret2
          exact bits_no HS1.out HO1.out hgl HR1.out (Int.not_lt.2 HN2.out)
        · have HD2 := Aside0.mk (HD.out hlast)
          have hla : ((i : Int) == (n : Int) - 1) = false ∨ ((i : Int) == (n : Int) - 1) = true ∧ (y / 2 != 0) = false := by
            by_cases h : i + 1 = n
            · exact .inr ⟨beq_iff_eq.2 (by omega), by simp; omega⟩
            · exact .inl (beq_eq_false_iff_ne.2 (by omega))
          clear hlast HN HD
          rcases hla with c3 | ⟨c3, c4⟩
          all_goals
            go_wp2
            go_roundw
            case rel =>
              have := rel_next (A := A) (c := c) hin HS1.out HBB.out HO1.out hgl HR1.out HD2.out
              rw [HY.out] at this
              exact this
            case measure => simp [intOf]; omega
    · obtain rfl : i = n := by omega
      have hlx := HL1.out rfl
      rcases hc with ⟨rfl, rfl, hr⟩ | ⟨hi0, rfl, A', c', hr⟩
      · omega
      · have HR1 := Aside0.mk hr
        have HLX := Aside0.mk hlx
        obtain ⟨y, hy⟩ : ∃ y, x / ((2 ^ i : Nat) : Int) = y := ⟨_, rfl⟩
        rw [hy]
        clear hr hlx hy
        go_wp2
        go_ret2
        exact ⟨A', c', by unfold BitsR; rw [if_pos HLX.out]; exact ⟨_, rfl, HS1.out, Nat.le_refl _⟩, HR1.out, HO1.out⟩
end Go.Proofs.YtaddlkokencbkaaDoor.Bits

/- A map of functions that a call makes and asks: what is laid, and what is told. -/
namespace Go.Proofs.YtaddlkokencbkaaDoor.MapFn
open Go.RowKit Go.Proofs.YtaddlkokencbkaaDoorW.PrintWords Go.Proofs.YtaddlkokencbkaaDoorW.PrintLast Go.Proofs.YtaddlkokencbkaaDoorW.PrintMore
set_option linter.unusedVariables false
set_option linter.unusedSimpArgs false
def mset (w : World) (b : Nat) (es : Array MapEntry) (clock : Nat) : World := { w with heap := w.heap.setIfInBounds b (.map es clock) }
theorem mset_get {w : World} {b : Nat} (hb : b < w.heap.size) (es : Array MapEntry) (clock : Nat) : (mset w b es clock).heap[b]? = some (.map es clock) := by
  unfold mset
  simp [Array.getElem?_setIfInBounds, hb]
theorem mset_other {w : World} {b i : Nat} (h : i ≠ b) (es : Array MapEntry) (clock : Nat) : (mset w b es clock).heap[i]? = w.heap[i]? := by
  unfold mset
  simp [Array.getElem?_setIfInBounds, Ne.symm h]
theorem mset_below {w W : World} (hb : Below w.heap.size w W) {b : Nat} (h : w.heap.size ≤ b) (es : Array MapEntry) (clock : Nat) : Below w.heap.size w (mset W b es clock) :=
  ⟨hb.os, hb.tape, hb.output, by simpa [mset] using hb.size, fun i hi => (mset_other (by omega) es clock).trans (hb.block i hi)⟩
variable {P : Program} {w : World} {t k e : TypeId} {b clock : Nat} {es : Array MapEntry}
theorem run_find (hk : P.underlying k = some (.int .i64)) (x : Int) (l : List MapEntry) {r : Option (Nat × Value)} (h : Instr.findNow (.int .i64) (.int .i64 x) l 0 = some r) : (Instr.findKey k (.int .i64 x) l).run P w = .ok r w := by
  simp [Instr.findKey, run_underlying hk, h, Result.andThen]
theorem run_check (hk : P.underlying k = some (.int .i64)) (x : Int) (em : Bool) : (Instr.checkKey em 10000 k (.int .i64 x)).run P w = .ok () w := MapKept.run_checkKey hk (by first | trivial | (simp [MapKept.IsKey]; done) | exact ⟨_, rfl⟩ | rfl) em 9999
theorem run_insert (ht : P.underlying t = some (.map k e)) (hk : P.underlying k = some (.int .i64)) (hb : w.heap[b]? = some (.map es clock)) (x : Int) (v : Value) (h : Instr.findNow (.int .i64) (.int .i64 x) es.toList 0 = some none) :
    (Instr.mapUpdate t (.map (some b)) (.int .i64 x) v).run P w = .ok () (mset w b (es.push ⟨.int .i64 x, v, clock⟩) (clock + 1)) := by
  simp [Instr.mapUpdate, run_underlying ht, MapKept.run_getObj_map hb, run_check hk, run_find hk x _ h, MapKept.run_setObj_map _ hb, Result.andThen, mset]
theorem run_look (ht : P.underlying t = some (.map k e)) (hk : P.underlying k = some (.int .i64)) (hb : w.heap[b]? = some (.map es clock)) (x : Int) {j : Nat} {v : Value} (h : Instr.findNow (.int .i64) (.int .i64 x) es.toList 0 = some (some (j, v))) :
    (Instr.lookup t (.map (some b)) (.int .i64 x) false).run P w = .ok v w := by
  simp [Instr.lookup, run_underlying ht, MapKept.run_getObj_map hb, run_check hk, run_find hk x _ h, Result.andThen]
theorem run_look_no (ht : P.underlying t = some (.map k e)) (hk : P.underlying k = some (.int .i64)) (hb : w.heap[b]? = some (.map es clock)) (x : Int) {z : Value} (hz : (zeroValue e).run P w = .ok z w) (h : Instr.findNow (.int .i64) (.int .i64 x) es.toList 0 = some none) :
    (Instr.lookup t (.map (some b)) (.int .i64 x) false).run P w = .ok z w := by
  simp [Instr.lookup, run_underlying ht, MapKept.run_getObj_map hb, run_check hk, run_find hk x _ h, hz, Result.andThen]
theorem wpList_insert {P : Program} (w : World) {ops : Array Oper} {rest : List Oper} {o : Oper} {a : Act} {Q : Exit → Act → World → Prop} (hg : o.guard = none) (t : TypeId) (m x v : Operand) (hop : o.op = Op.insert t m x v) (w' : World)
    (hrun : (Instr.mapUpdate t (a.eval m) (a.eval x) (a.eval v)).run P w = .ok () w') (hK : wpList P ops Q rest (a.put o.dst undef) w') : wpList P ops Q (o :: rest) a w := by
  refine wpList_plain hg fun K' hK' => ?_
  unfold Oper.wp
  simp [execOp, hop, hrun, Result.andThen]
  exact hK' _ _ hK
end Go.Proofs.YtaddlkokencbkaaDoor.MapFn

/- What is read of a row: its values by the columns' kinds and the bits that tell Null, in plain Lean. -/
namespace Go.Proofs.YtaddlkokencbkaaDoor.Row
open Go.RowKit Go.Proofs.YtaddlkokencbkaaDoorW.PrintWords Go.Proofs.YtaddlkokencbkaaDoorW.PrintLast Go.Proofs.YtaddlkokencbkaaDoorW.PrintMore Go.Proofs.YtaddlkokencbkaaDoor.Q Go.Proofs.YtaddlkokencbkaaDoor.Exact Go.Proofs.YtaddlkokencbkaaDoor.Rd Go.Proofs.YtaddlkokencbkaaDoor.RdN Go.Proofs.YtaddlkokencbkaaDoor.Fits Go.Proofs.YtaddlkokencbkaaDoor.Bits
set_option linter.unusedVariables false
/-- A value of a kind, what is left, and the error. -/
def valR (k : Int) (l : List Int) (e : Int) : V × List Int × Int :=
  if k = 1 then (⟨1, byteV l e, ⟨#[]⟩⟩, byteL l e, byteE l e)
  else if k = 2 then (⟨2, unz (rdD l e).1, ⟨#[]⟩⟩, (rdD l e).2.1, (rdD l e).2.2)
  else (⟨k, 0, strOfNums (rdT 4096 l e).1⟩, (rdT 4096 l e).2.1, (rdT 4096 l e).2.2)
def nullV : V := ⟨0, 0, ⟨#[]⟩⟩
def oneR (x : Int) (k : Int) (l : List Int) (e : Int) : V × List Int × Int := if x % 2 = 1 then (nullV, l, e) else valR k l e
def rowR : List Col → Int → List Int → Int → List V × List Int × Int
  | [], _, l, e => ([], l, e)
  | c :: cs, x, l, e => ((oneR x c.f1 l e).1 :: (rowR cs (x / 2) (oneR x c.f1 l e).2.1 (oneR x c.f1 l e).2.2).1, (rowR cs (x / 2) (oneR x c.f1 l e).2.1 (oneR x c.f1 l e).2.2).2)
theorem dg_suffix : ∀ (k n : Nat) (l : List Int), (dg k n l).2.1 <:+ l
  | 0, n, l => List.nil_suffix
  | k + 1, n, [] => List.nil_suffix
  | k + 1, n, x :: l => by
    unfold dg
    split
    · exact List.nil_suffix
    · split
      · split
        · exact List.nil_suffix
        · exact List.suffix_cons x l
      · exact (dg_suffix k _ l).trans (List.suffix_cons x l)
theorem rdD_suffix (l : List Int) (e : Int) : (rdD l e).2.1 <:+ l := by
  unfold rdD fin
  split
  · exact List.suffix_refl l
  · split
    · exact dg_suffix 10 0 l
    · exact List.suffix_refl l
theorem rdN_suffix (l : List Int) (e : Int) : (rdN l e).2.1 <:+ l := by
  unfold rdN
  split
  · exact List.suffix_refl l
  · exact rdD_suffix l e
theorem rdT_suffix (m : Int) (l : List Int) (e : Int) : (rdT m l e).2.1 <:+ l := by
  unfold rdT
  split
  · exact List.suffix_refl l
  · split
    · exact List.suffix_refl l
    · split
      · exact List.suffix_refl l
      · exact (List.drop_suffix _ _).trans (rdN_suffix l e)
theorem byteL_suffix (l : List Int) (e : Int) : byteL l e <:+ l := by
  unfold byteL
  split
  · exact List.drop_suffix 1 l
  · exact List.suffix_refl l
theorem valR_suffix (k : Int) (l : List Int) (e : Int) : (valR k l e).2.1 <:+ l := by
  unfold valR
  split
  · exact byteL_suffix l e
  · split
    · exact rdD_suffix l e
    · exact rdT_suffix 4096 l e
theorem oneR_suffix (x k : Int) (l : List Int) (e : Int) : (oneR x k l e).2.1 <:+ l := by
  unfold oneR
  split
  · exact List.suffix_refl l
  · exact valR_suffix k l e
theorem rowR_len : ∀ (cs : List Col) (x : Int) (l : List Int) (e : Int), (rowR cs x l e).1.length = cs.length
  | [], _, _, _ => rfl
  | c :: cs, x, l, e => by simp [rowR, rowR_len cs]
theorem rdT_len (l : List Int) (e : Int) : (rdT 4096 l e).1.length ≤ 4096 := by
  unfold rdT
  split
  · simp
  · split
    · simp
    · split
      · simp
      · rename_i h1 h2 h3
        rw [List.length_take]
        omega
theorem strOfNums_len (l : List Int) : (strOfNums l).size = l.length := by
  show (strOfNums l).data.size = _
  rw [← Array.length_toList, strOfNums_data, List.length_map]
theorem valR_short (k : Int) (l : List Int) (e : Int) : (valR k l e).1.f2.size ≤ 4096 := by
  unfold valR
  split
  · exact Nat.zero_le _
  · split
    · exact Nat.zero_le _
    · dsimp only
      rw [strOfNums_len]
      exact rdT_len l e
theorem oneR_short (x k : Int) (l : List Int) (e : Int) : (oneR x k l e).1.f2.size ≤ 4096 := by
  unfold oneR
  split
  · exact Nat.zero_le _
  · exact valR_short k l e
theorem rowR_short : ∀ (cs : List Col) (x : Int) (l : List Int) (e : Int), ∀ v ∈ (rowR cs x l e).1, v.f2.size ≤ 4096
  | [], _, _, _, v, h => by simp [rowR] at h
  | c :: cs, x, l, e, v, h => by
    simp only [rowR, List.mem_cons] at h
    rcases h with rfl | h
    · exact oneR_short _ _ _ _
    · exact rowR_short cs _ _ _ v h
theorem suffix_mem {l m : List Int} (h : l <:+ m) {P : Int → Prop} (hm : ∀ x ∈ m, P x) : ∀ x ∈ l, P x := fun x hx => hm x (h.subset hx)
/-- What a row's reading comes to: is there one? -/
def okB (cs : List Col) (x : Int) (l : List Int) (e : Int) : Bool := decide (x < ((2 ^ cs.length : Nat) : Int)) && (decide ((rowR cs x l e).2.2 = 0) && fitsB cs (rowR cs x l e).1)
theorem bit_head (x : Int) (i : Nat) : bitB x i = decide ((x / ((2 ^ i : Nat) : Int)) % 2 = 1) := rfl
/-- Where a reading stands behind i values. -/
structure At (cs : List Col) (x : Int) (l0 : List Int) (e0 : Int) (i : Nat) (out : List V) (l : List Int) (e : Int) : Prop where
  len : out.length = i
  suf : l <:+ l0
  all : (rowR cs x l0 e0).1 = out ++ (rowR (cs.drop i) (x / ((2 ^ i : Nat) : Int)) l e).1
  rest : (rowR cs x l0 e0).2 = (rowR (cs.drop i) (x / ((2 ^ i : Nat) : Int)) l e).2
theorem At.start (cs : List Col) (x : Int) (l0 : List Int) (e0 : Int) : At cs x l0 e0 0 [] l0 e0 :=
  ⟨rfl, List.suffix_refl _, by simp, by simp⟩
theorem At.next {cs : List Col} {x : Int} {l0 : List Int} {e0 : Int} {i : Nat} {out : List V} {l : List Int} {e : Int} (h : At cs x l0 e0 i out l e) (hi : i < cs.length) {v : V} {l' : List Int} {e' : Int} (hv : oneR (x / ((2 ^ i : Nat) : Int)) (rd_T69 cs (i : Int)).f1 l e = (v, l', e')) :
    At cs x l0 e0 (i + 1) (out ++ [v]) l' e' := by
  have hd := col_drop cs i hi
  have ha := h.all
  have hr := h.rest
  rw [hd, rowR, hv, half] at ha hr
  refine ⟨by simp [h.len], ?_, by rw [ha]; simp, hr⟩
  have := oneR_suffix (x / ((2 ^ i : Nat) : Int)) (rd_T69 cs (i : Int)).f1 l e
  rw [hv] at this
  exact this.trans h.suf
theorem At.fin {cs : List Col} {x : Int} {l0 : List Int} {e0 : Int} {out : List V} {l : List Int} {e : Int} (h : At cs x l0 e0 cs.length out l e) : (rowR cs x l0 e0) = (out, l, e) := by
  have ha := h.all
  have hr := h.rest
  rw [List.drop_length] at ha hr
  simp only [rowR, List.append_nil] at ha hr
  exact Prod.ext ha hr
end Go.Proofs.YtaddlkokencbkaaDoor.Row
