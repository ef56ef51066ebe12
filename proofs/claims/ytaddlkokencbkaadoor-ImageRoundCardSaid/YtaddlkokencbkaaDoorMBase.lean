/- Texts of this claim, one behind the other: Exact, Plain, Lay, Cat. -/
import Derived.Test.YtaddlkokencbkaaDoorWWords
import Derived.ArgAppend
import Derived.Lib.Zigzag
import Derived.Test.YtaddlkokencbkaaDoorProg
import Derived.Test.YtaddlkokencbkaaDoorWMore
import Derived.Lib.AppendZeros
import Derived.WalkSpells
/- Words of this session: an append to a byte slice that came in and has no spare room makes a row of the call's own; the digits of a number to the base 128. -/
namespace Go.Proofs.YtaddlkokencbkaaDoor.Exact
open Go.RowKit Go.Proofs.YtaddlkokencbkaaDoorW.PrintWords

theorem nums_encs (l : List Int) : nums .u8 l = encs (Value.int .u8) l := rfl

section
variable {P : Program} {ops : Array Oper} {rest : List Oper} {o : Oper} {a : Act} {Q : Exit → Act → World → Prop}
/-- append(v, x), v a slice whose capacity is its length; the goal's world is 'W.alloc' of the variadic's box. -/
theorem append_exact {w0 W : World} (base : Nat) (hgd : o.guard = none) (s x : Operand) (t e : TypeId) (k : IntKind) (bytes : Nat)
    (ho : o.op = .call { callee := .builtin .append, args := #[s, x], argTypes := #[t, t] })
    (ht : P.underlying t = some (.slice e)) (hinfo : (P.info? e).map (fun i => (i.zero, i.size, i.bytes)) = some (some (.int k 0), 1, bytes))
    (A : Option Addr) (l : List Int) (y : Int) (hs : a.eval s = .slice A l.length l.length) (hx : a.eval x = .slice (some ⟨W.heap.size, 0, none⟩) 1 1)
    (HC : Kd.C (Kd.int k) W A l.length l) (HB : Below base w0 W) (hbase : base ≤ W.heap.size) (hl : (l.length + 1) * bytes ≤ 140737488355328) (hl2 : l.length + 1 ≤ 140737488355328)
    (h : ∀ v1 w1, Kd.R (Kd.int k) e w1 base (fun _ => True) v1 (l ++ [y]) → Below base w0 w1 → W.grownBy w1 none → wpList P ops Q rest (a.put o.dst v1) w1) :
    wpList P ops Q (o :: rest) a (W.alloc (.cells #[.int k y] e)) := by
  obtain ⟨i0, hi, hzz⟩ := Option.map_eq_some_iff.1 hinfo
  simp only [Prod.mk.injEq] at hzz
  obtain ⟨hz0, hz1, hz2⟩ := hzz
  have HR := Kd.reads_of_C (d := (0 : Int)) HC
  have hA : A = none → l.length = 0 ∧ l.length = 0 := by
    intro hn
    rcases Nat.eq_zero_or_pos l.length with h0 | h0
    · exact ⟨h0, h0⟩
    · obtain ⟨ad, e, _⟩ := HR.2.2 h0
      rw [hn] at e
      cases e
  refine wpList_append_grows (W.alloc (.cells #[.int k y] e)) hgd s x t ho e i0 (.int k 0) 1 bytes ht hi hz0 hz1 hz2 rfl (by omega) A l.length l.length (nums k l) hs hA (by simp [nums]) ?_
    ⟨W.heap.size, 0, none⟩ 1 1 [.int k y] hx rfl (World.news_of_block (cs := #[.int k y]) (t := e) (fr := (0, 0)) (heap_alloc_new W _)) (by simp [Value.oneCell']) (by omega) (by simp only [maxLen]; omega) hl ?_
  · rintro b rfl j u hj
    have hjl : j < l.length := by
      rcases Nat.lt_or_ge j l.length with hlt | hge
      · exact hlt
      · rw [List.getElem?_eq_none (by simpa [nums] using hge)] at hj; cases hj
    obtain ⟨ad, e1, hc⟩ := HR.2.2 (by omega)
    injection e1 with e1
    subst e1
    have h2 := hc j hjl
    have e3 : u = .int k (l.getD j 0) := by
      simp [nums, List.getElem?_map, List.getElem?_eq_getElem hjl] at hj
      rw [← hj]
      simp [List.getD_eq_getElem?_getD, List.getElem?_eq_getElem hjl]
    rw [e3]
    exact pw_cell_below (below_alloc (Below.refl _ _) _) h2
  · intro v1 w1 hown hg
    have hb1 : Below base w0 w1 := (HB.alloc hbase _).grown hg (by simp; omega) (by simp)
    have hlen : l.length + 1 = (l ++ [y]).length := by simp
    have hc : nums k l ++ [.int k y] = encs (Value.int k) (l ++ [y]) := by simp [nums, encs]
    rw [hlen, hc] at hown
    refine h v1 w1 (Kd.R_lower (Kd.R_of_own (h1 := fun _ => rfl) (ok := fun _ => True) hown (fun _ _ => trivial)) (by simp; omega)) hb1 (World.grownBy.trans (World.grownBy_alloc W _ _) hg)
/-- append(v, x), v a row of whole numbers of the call's own; the number is met from the goal. -/
theorem R_append_num {w0 W : World} (base : Nat) (hgd : o.guard = none) (s x : Operand) (t e : TypeId) (k : IntKind) (bytes : Nat)
    (ho : o.op = .call { callee := .builtin .append, args := #[s, x], argTypes := #[t, t] })
    (ht : P.underlying t = some (.slice e)) (hinfo : (P.info? e).map (fun i => (i.zero, i.size, i.bytes)) = some (some (.int k 0), 1, bytes)) (hb0 : 0 < bytes)
    (v : Value) (l : List Int) (y : Int) (hs : a.eval s = v) (hx : a.eval x = .slice (some ⟨W.heap.size, 0, none⟩) 1 1)
    (HO : Kd.R (Kd.int k) e W base (fun _ => True) v l) (HB : Below base w0 W) (hbase : base ≤ W.heap.size) (hl : (l.length + 1) * bytes ≤ 140737488355328)
    (h : ∀ v1 w1, Kd.R (Kd.int k) e w1 base (fun _ => True) v1 (l ++ [y]) → Below base w0 w1 → W.grownBy w1 v.ownBlock → wpList P ops Q rest (a.put o.dst v1) w1) :
    wpList P ops Q (o :: rest) a (W.alloc (.cells #[.int k y] e)) :=
  Kd.R_append (Kd.int k) base hgd s x t e (.int k 0) bytes ho ht hinfo rfl (show 0 < 1 by decide) hb0 v l y [.int k y] (fun _ => True) (fun _ => False) hs hx rfl (fun _ hk => hk.elim) (fun _ _ => trivial) HO HB hbase hl
    fun v1 w1 h1 h2 h3 _ => h v1 w1 h1 h2 h3
/-- append(v, ys...), v a row of whole numbers of the call's own. -/
theorem R_append_row {w0 W : World} (base : Nat) (hgd : o.guard = none) (s x : Operand) (t e : TypeId) (k : IntKind) (bytes : Nat)
    (ho : o.op = .call { callee := .builtin .append, args := #[s, x], argTypes := #[t, t] })
    (ht : P.underlying t = some (.slice e)) (hinfo : (P.info? e).map (fun i => (i.zero, i.size, i.bytes)) = some (some (.int k 0), 1, bytes)) (hb0 : 0 < bytes)
    (v : Value) (l m : List Int) (A : Option Addr) (n c : Nat) (hs : a.eval s = v) (hx : a.eval x = .slice A n c)
    (HO : Kd.R (Kd.int k) e W base (fun _ => True) v l) (HR : Kd.C (Kd.int k) W A n m) (HB : Below base w0 W) (hbase : base ≤ W.heap.size) (hl : (l.length + n) * bytes ≤ 140737488355328)
    (h : ∀ v1 w1, Kd.R (Kd.int k) e w1 base (fun _ => True) v1 (l ++ m) → Below base w0 w1 → W.grownBy w1 v.ownBlock → wpList P ops Q rest (a.put o.dst v1) w1) :
    wpList P ops Q (o :: rest) a W :=
  Kd.R_append_row (Value.int k) (0 : Int) (h1 := fun _ => rfl) base hgd s x t e (.int k 0) bytes ho ht hinfo rfl hb0 v l m A n c (fun _ => True) hs hx (fun _ _ => trivial) HO HR HB hbase hl
    fun v1 w1 h1 h2 h3 _ => h v1 w1 h1 h2 h3
end

/-- A number's digits to the base 128, the least one first, all but the last with 128 more. -/
def digs (n : Nat) : List Int := if n < 128 then [(n : Int)] else ((n % 128 + 128 : Nat) : Int) :: digs (n / 128)
termination_by n
decreasing_by omega
theorem digs_small {n : Nat} (h : n < 128) : digs n = [(n : Int)] := by rw [digs, if_pos h]
theorem digs_big {n : Nat} (h : ¬ n < 128) : digs n = ((n % 128 + 128 : Nat) : Int) :: digs (n / 128) := by rw [digs, if_neg h]
theorem digs_len : ∀ (k n : Nat), n < 128 ^ (k + 1) → (digs n).length ≤ k + 1
  | 0, n, h => by rw [digs_small (by simpa using h)]; simp
  | k + 1, n, h => by
    by_cases hs : n < 128
    · rw [digs_small hs]; simp
    · rw [digs_big hs]
      have : n / 128 < 128 ^ (k + 1) := by
        rw [Nat.div_lt_iff_lt_mul (by omega)]
        rw [Nat.pow_succ] at h
        exact h
      have := digs_len k (n / 128) this
      simp only [List.length_cons]
      omega
theorem digs_len10 {n : Nat} (h : n < 18446744073709551616) : (digs n).length ≤ 10 := digs_len 9 n (by
  have : (128 : Nat) ^ (9 + 1) = 1180591620717411303424 := by decide
  omega)
theorem digs_pos (n : Nat) : 0 < (digs n).length := by
  by_cases hs : n < 128
  · rw [digs_small hs]; simp
  · rw [digs_big hs]; simp

theorem byte_or (n : Nat) : Go.bits .or .u8 ((n : Int) % 256) 128 = ((n % 128 + 128 : Nat) : Int) := by
  have h : ∀ m : Fin 256, Go.bits .or .u8 ((m.val : Nat) : Int) 128 = ((m.val % 128 + 128 : Nat) : Int) := by decide +kernel
  have := h ⟨n % 256, Nat.mod_lt _ (by omega)⟩
  simp only at this
  rw [show ((n : Int) % 256) = ((n % 256 : Nat) : Int) by omega, this]
  congr 2
  omega

/-- A signed number as one from 0 on, as the package computes it. -/
theorem zig_eq {a : Int} (h1 : -9223372036854775808 ≤ a) (h2 : a ≤ 9223372036854775807) :
    bits .xor .u64 (IntKind.u64.wrap (IntKind.u64.wrap a * 2)) (IntKind.u64.wrap (a / 9223372036854775808)) = ((Lib.zigzag a : Nat) : Int) := by
  by_cases h : 0 ≤ a
  · have e1 : IntKind.u64.wrap (IntKind.u64.wrap a * 2) = (((2 * a).toNat : Nat) : Int) := by
      rw [IntKind.wrap_u64, IntKind.wrap_u64]
      omega
    have e2 : IntKind.u64.wrap (a / 9223372036854775808) = ((0 : Nat) : Int) := by
      rw [IntKind.wrap_u64]
      omega
    rw [e1, e2, bits_xor_u64_nat _ _ (by omega) (by decide), Nat.xor_zero]
    unfold Lib.zigzag
    rw [if_pos h]
  · have e1 : IntKind.u64.wrap (IntKind.u64.wrap a * 2) = (((2 * a + 18446744073709551616).toNat : Nat) : Int) := by
      rw [IntKind.wrap_u64, IntKind.wrap_u64]
      omega
    have e2 : IntKind.u64.wrap (a / 9223372036854775808) = ((2 ^ 64 - 1 : Nat) : Int) := by
      rw [IntKind.wrap_u64]
      omega
    rw [e1, e2, bits_xor_u64_nat _ _ (by omega) (by decide), Nat.xor_comm, Lib.xor_ones64 _ (by omega)]
    unfold Lib.zigzag
    rw [if_neg h]
    omega
end Go.Proofs.YtaddlkokencbkaaDoor.Exact

/- Plain laws of digits to the base 128 and of bytes as texts: no program in sight. -/
namespace Go.Proofs.YtaddlkokencbkaaDoor.Plain
open Go.RowKit Go.Proofs.YtaddlkokencbkaaDoorW.PrintWords Go.Proofs.YtaddlkokencbkaaDoor.Exact

def Bytes (l : List Int) : Prop := ∀ x ∈ l, 0 ≤ x ∧ x < 256
theorem Bytes.append {l m : List Int} (h : Bytes l) (k : Bytes m) : Bytes (l ++ m) := fun x hx => by
  rcases List.mem_append.1 hx with hx | hx
  · exact h x hx
  · exact k x hx
theorem digs_bytes (n : Nat) : Bytes (digs n) := by
  induction n using Nat.strongRecOn with
  | _ n ih =>
    intro x hx
    by_cases hs : n < 128
    · rw [digs_small hs] at hx
      simp at hx
      omega
    · rw [digs_big hs] at hx
      rcases List.mem_cons.1 hx with rfl | hx
      · omega
      · exact ih (n / 128) (by omega) x hx
theorem bytesOf_bytes (s : ByteArray) : Bytes (bytesOf s) := by
  intro x hx
  simp only [bytesOf, List.mem_map] at hx
  obtain ⟨b, _, rfl⟩ := hx
  have := b.toNat_lt
  omega
/-- The digits and what is behind them tell the number and what is behind it. -/
theorem digs_inj : ∀ (a b : Nat) (l m : List Int), digs a ++ l = digs b ++ m → a = b ∧ l = m := by
  intro a
  induction a using Nat.strongRecOn with
  | _ a ih =>
    intro b l m h
    by_cases ha : a < 128
    · by_cases hb : b < 128
      · rw [digs_small ha, digs_small hb] at h
        simp at h
        exact ⟨by omega, h.2⟩
      · rw [digs_small ha, digs_big hb] at h
        simp at h
        omega
    · by_cases hb : b < 128
      · rw [digs_big ha, digs_small hb] at h
        simp at h
        omega
      · rw [digs_big ha, digs_big hb] at h
        simp only [List.cons_append, List.cons.injEq] at h
        obtain ⟨h1, h2⟩ := h
        obtain ⟨h3, h4⟩ := ih (a / 128) (by omega) (b / 128) l m h2
        exact ⟨by omega, h4⟩
theorem digs_eq {a b : Nat} (h : digs a = digs b) : a = b := (digs_inj a b [] [] (by simpa using h)).1
theorem digs_mono : ∀ (a b : Nat), a ≤ b → (digs a).length ≤ (digs b).length := by
  intro a
  induction a using Nat.strongRecOn with
  | _ a ih =>
    intro b h
    by_cases ha : a < 128
    · rw [digs_small ha]
      have := digs_pos b
      simp
      omega
    · rw [digs_big ha, digs_big (n := b) (by omega)]
      have := ih (a / 128) (by omega) (b / 128) (by omega)
      simp
      omega
theorem bytes_eq_map {l : List Int} (h : Bytes l) : (l.map fun n => (UInt8.ofNat n.toNat)).map (fun b => (b.toNat : Int)) = l := by
  rw [List.map_map]
  conv => rhs; rw [← List.map_id l]
  refine List.map_congr_left fun x hx => ?_
  have := h x hx
  simp only [Function.comp, id]
  rw [UInt8.toNat_ofNat']
  omega
theorem strOf_toList (l : List Int) : (strOfNums l).toList = l.map fun n => UInt8.ofNat n.toNat := by
  rw [ByteArray.toList_eq, strOfNums_data]
theorem strOf_inj {a b : List Int} (ha : Bytes a) (hb : Bytes b) (h : (strOfNums a).toList = (strOfNums b).toList) : a = b := by
  rw [strOf_toList, strOf_toList] at h
  rw [← bytes_eq_map ha, ← bytes_eq_map hb, h]
theorem str_beq {a b : List Int} (ha : Bytes a) (hb : Bytes b) : ((strOfNums a).toList == (strOfNums b).toList) = decide (a = b) := by
  by_cases h : a = b
  · subst h; simp
  · have : ¬ (strOfNums a).toList = (strOfNums b).toList := fun e => h (strOf_inj ha hb e)
    simp [h, this]
theorem ofNums_bytesOf (s : ByteArray) : (strOfNums (bytesOf s)) = s := by
  apply ByteArray.ext
  apply Array.toList_inj.1
  rw [strOfNums_data, bytesOf, List.map_map]
  conv => rhs; rw [← List.map_id s.data.toList]
  refine List.map_congr_left fun x _ => ?_
  simp
theorem bytesOf_ofNums {l : List Int} (h : Bytes l) : bytesOf (strOfNums l) = l := by
  rw [bytesOf, strOfNums_data]
  exact bytes_eq_map h
end Go.Proofs.YtaddlkokencbkaaDoor.Plain

/- Contracts of lay.digits (over a slice without spare room), lay.own, lay.Number, lay.Signed, lay.Text: the bytes behind what there is, in new memory. -/
namespace Go.Proofs.YtaddlkokencbkaaDoor.Lay
open Go.RowKit Go.Proofs.YtaddlkokencbkaaDoorW.PrintWords Go.Proofs.YtaddlkokencbkaaDoorW.PrintLast Go.Proofs.YtaddlkokencbkaaDoorW.PrintMore Go.Proofs.YtaddlkokencbkaaDoor.Exact
set_option linter.unusedVariables false
set_option linter.unusedSimpArgs false

theorem info5 : (Tryd.prog.info? 5).map (fun i => (i.zero, i.size, i.bytes)) = some (some (.int .u8 0), 1, 1) := by kernel_rfl

/-- What the slice holds on the way: the one that came in, or a row of the call's own. -/
def St (A0 : Option Addr) (l0 : List Int) (base : Nat) (wr : World) (v : Value) (pre : List Int) : Prop :=
  (v = .slice A0 l0.length l0.length ∧ pre = l0 ∧ Kd.C (Kd.int .u8) wr A0 l0.length l0) ∨ Kd.R (Kd.int .u8) 5 wr base (fun _ => True) v pre

def RelD (A0 : Option Addr) (l0 : List Int) (n : Nat) (w : World) (v0 v1 : Value) (wr : World) : Prop :=
  ∃ (pre : List Int) (x : Int), v1 = .int .u64 x ∧ 0 ≤ x ∧ x ≤ 18446744073709551615 ∧ l0 ++ digs n = pre ++ digs x.toNat ∧ St A0 l0 w.heap.size wr v0 pre ∧ Below w.heap.size w wr

theorem digs_more {l0 pre : List Int} {n : Nat} {x : Int} (h0 : 0 ≤ x) (hb : 128 ≤ x) (h : l0 ++ digs n = pre ++ digs x.toNat) : l0 ++ digs n = (pre ++ [Go.bits .or .u8 (x % 256) 128]) ++ digs (x / 128).toNat := by
  obtain ⟨m, rfl⟩ := Int.eq_ofNat_of_zero_le h0
  rw [h, byte_or, digs_big (n := (m : Int).toNat) (by omega), List.append_assoc]
  congr 2
theorem digs_last {l0 pre : List Int} {n : Nat} {x : Int} (h0 : 0 ≤ x) (hb : x < 128) (h : l0 ++ digs n = pre ++ digs x.toNat) : pre ++ [x] = l0 ++ digs n := by
  rw [h, digs_small (n := x.toNat) (by omega)]
  congr 2
  omega

set_option maxHeartbeats 1000000 in
theorem digits_calls (A0 : Option Addr) (l0 : List Int) (y : Int) (w : World) (hr0 : Kd.C (Kd.int .u8) w A0 l0.length l0) (hy0 : 0 ≤ y) (hy1 : y ≤ 18446744073709551615) (hl : l0.length ≤ 140737488355000) :
    Calls Tryd.prog 80 #[.slice A0 l0.length l0.length, .int .u64 y] w fun e w' => ∃ v0_ : Value, e = .returned v0_ ∧ Kd.R (Kd.int .u8) 5 w' w.heap.size (fun _ => True) v0_ (l0 ++ digs y.toNat) ∧ Below w.heap.size w w' := by
  have hl10 : (digs y.toNat).length ≤ 10 := digs_len10 (by omega)
  have HC0 := Aside0.mk hr0
  clear hr0
  go_enter Tryd.func80, Tryd.ntmps80
  go_wp2
  go_loopw [0, 1] (fun v0 v1 wr => RelD A0 l0 y.toNat w v0 v1 wr) (fun _ v1 _ => (intOf v1).toNat)
  case atStart => exact ⟨l0, y, rfl, hy0, hy1, rfl, .inl ⟨rfl, rfl, HC0.out⟩, Below.refl _ _⟩
  case round =>
    obtain ⟨pre, x, rfl, hx0, hx1, he, hst, hb⟩ := hrel
    have hlen : pre.length + (digs x.toNat).length ≤ 140737488355010 := by
      have := congrArg List.length he
      simp only [List.length_append] at this
      omega
    have hpos := digs_pos x.toNat
    have LM : Aside0 (pre.length + 1 ≤ 140737488355010) := ⟨by omega⟩
    have HE := Aside0.mk he
    have HB := Aside0.mk hb
    have hsz := hb.size
    clear he hb hlen hpos hl10
    rcases hst with ⟨rfl, rfl, hc⟩ | ho
    · have HC := Aside0.mk hc
      clear hc
      by_cases hx : 128 ≤ x
      · have c1 : decide (128 ≤ x) = true := decide_eq_true hx
        go_wp2_with (first | (at_builtin; refine append_exact (w0 := w) w.heap.size rfl (.tmp 7) (.tmp 11) 25 5 .u8 1 rfl Tryd.underlying25 info5 A0 pre (Go.bits .or .u8 (x % 256) 128) rfl rfl ?aO ?aB ?aS ?aL ?aM ?_; (case aO => exact HC.out); (case aB => exact HB.out); (case aS => exact hsz); (case aL => have := LM.out; omega); (case aM => have := LM.out; omega); intro v1 w1 ho hb hg; have HO := Aside0.mk ho; have HB2 := Aside0.mk hb; clear ho hb hg HB))
        go_roundw
        case rel => exact ⟨_, x / 128, by go_num, by omega, by omega, digs_more hx0 hx HE.out, .inr HO.out, HB2.out⟩
        case measure => simp [intOf]; omega
      · have c1 : decide (128 ≤ x) = false := decide_eq_false hx
        go_wp2_with (first | (at_builtin; refine append_exact (w0 := w) w.heap.size rfl (.tmp 15) (.tmp 18) 25 5 .u8 1 rfl Tryd.underlying25 info5 A0 pre x rfl rfl ?aO ?aB ?aS ?aL ?aM ?_; (case aO => exact HC.out); (case aB => exact HB.out); (case aS => exact hsz); (case aL => have := LM.out; omega); (case aM => have := LM.out; omega); intro v1 w1 ho hb hg; have HO := Aside0.mk ho; have HB2 := Aside0.mk hb; clear ho hb hg HB))
        go_ret
        exact ⟨_, rfl, by rw [← digs_last hx0 (by omega) HE.out]; exact HO.out, HB2.out⟩
    · have HO0 := Aside0.mk ho
      clear ho
      by_cases hx : 128 ≤ x
      · have c1 : decide (128 ≤ x) = true := decide_eq_true hx
        go_wp2_with (first | (at_builtin; refine Kd.R_append (Kd.int .u8) (w0 := w) w.heap.size rfl (.tmp 7) (.tmp 11) 25 5 (.int .u8 0) 1 rfl Tryd.underlying25 info5 rfl (by decide) (by omega) u0 pre (Go.bits .or .u8 (x % 256) 128) [.int .u8 (Go.bits .or .u8 (x % 256) 128)] (fun _ => True) (fun _ => False) rfl rfl ?aP (fun _ hk => hk.elim) (fun _ _ => trivial) ?aO ?aB ?aS ?aL ?_; (case aP => rfl); (case aO => exact HO0.out); (case aB => exact HB.out); (case aS => exact hsz); (case aL => have := LM.out; omega); intro v1 w1 ho hb hg hat; have HO := Aside0.mk ho; have HB2 := Aside0.mk hb; clear ho hb hg hat HB))
        go_roundw
        case rel => exact ⟨_, x / 128, by go_num, by omega, by omega, digs_more hx0 hx HE.out, .inr HO.out, HB2.out⟩
        case measure => simp [intOf]; omega
      · have c1 : decide (128 ≤ x) = false := decide_eq_false hx
        go_wp2_with (first | (at_builtin; refine Kd.R_append (Kd.int .u8) (w0 := w) w.heap.size rfl (.tmp 15) (.tmp 18) 25 5 (.int .u8 0) 1 rfl Tryd.underlying25 info5 rfl (by decide) (by omega) u0 pre x [.int .u8 x] (fun _ => True) (fun _ => False) rfl rfl ?aP (fun _ hk => hk.elim) (fun _ _ => trivial) ?aO ?aB ?aS ?aL ?_; (case aP => rfl); (case aO => exact HO0.out); (case aB => exact HB.out); (case aS => exact hsz); (case aL => have := LM.out; omega); intro v1 w1 ho hb hg hat; have HO := Aside0.mk ho; have HB2 := Aside0.mk hb; clear ho hb hg hat HB))
        go_ret
        exact ⟨_, rfl, by rw [← digs_last hx0 (by omega) HE.out]; exact HO.out, HB2.out⟩

theorem own_calls (A0 : Option Addr) (n c0 : Nat) (w : World) (hc : n ≤ c0) (hm : n ≤ 9223372036854775807) :
    Calls Tryd.prog 81 #[.slice A0 n c0] w fun e w' => e = .returned (.slice A0 n n) ∧ w = w' := by
  have e : (A0.map fun x => x.add 0) = A0 := by cases A0 <;> simp [Addr.add]
  have E := Aside0.mk e
  clear e
  go_enter Tryd.func81, Tryd.ntmps81
  go_wp2
  go_ret
  exact ⟨by first | rfl | simp [E.out], rfl⟩

def lim : Nat := 140737488355000
theorem u64_range (a : Int) : 0 ≤ IntKind.u64.wrap a ∧ IntKind.u64.wrap a ≤ 18446744073709551615 := by simp only [IntKind.wrap_u64]; omega

theorem number_calls (A0 : Option Addr) (c0 : Nat) (l0 : List Int) (a1 : Int) (w : World) (hr0 : Kd.C (Kd.int .u8) w A0 l0.length l0) (hc0 : l0.length ≤ c0) (hl : l0.length ≤ lim) :
    Calls Tryd.prog 82 #[.slice A0 l0.length c0, .int .i64 a1] w fun e w' => ∃ v0_ : Value, e = .returned v0_ ∧ Kd.R (Kd.int .u8) 5 w' w.heap.size (fun _ => True) v0_ (l0 ++ digs (IntKind.u64.wrap a1).toNat) ∧ Below w.heap.size w w' := by
  have HC0 := Aside0.mk hr0
  have hm := hr0.2.1
  have hu := u64_range a1
  unfold lim at hl
  clear hr0
  go_enter Tryd.func82, Tryd.ntmps82
  go_wp2_with (first | (go_at_call 81; refine (own_calls A0 _ c0 _ hc0 hm).mono ?_; rintro e w' ⟨rfl, rfl⟩) | (go_at_call 80; refine (digits_calls A0 l0 (IntKind.u64.wrap a1) _ HC0.out hu.1 hu.2 hl).mono ?_; rintro e w' ⟨v1, rfl, ho, hb⟩; have HO := Aside0.mk ho; have HB := Aside0.mk hb; clear ho hb))
  go_ret
  exact ⟨_, rfl, HO.out, HB.out⟩
theorem zig_range {a : Int} (h1 : -9223372036854775808 ≤ a) (h2 : a ≤ 9223372036854775807) :
    0 ≤ bits .xor .u64 (IntKind.u64.wrap (IntKind.u64.wrap a * 2)) (IntKind.u64.wrap (a / 9223372036854775808)) ∧ bits .xor .u64 (IntKind.u64.wrap (IntKind.u64.wrap a * 2)) (IntKind.u64.wrap (a / 9223372036854775808)) ≤ 18446744073709551615 := by
  rw [zig_eq h1 h2]
  have := Lib.zigzag_lt h1 h2
  omega
theorem signed_calls (A0 : Option Addr) (c0 : Nat) (l0 : List Int) (a1 : Int) (w : World) (hr0 : Kd.C (Kd.int .u8) w A0 l0.length l0) (hc0 : l0.length ≤ c0) (hl : l0.length ≤ lim) (h1 : -9223372036854775808 ≤ a1) (h2 : a1 ≤ 9223372036854775807) :
    Calls Tryd.prog 59 #[.slice A0 l0.length c0, .int .i64 a1] w fun e w' => ∃ v0_ : Value, e = .returned v0_ ∧ Kd.R (Kd.int .u8) 5 w' w.heap.size (fun _ => True) v0_ (l0 ++ digs (Lib.zigzag a1)) ∧ Below w.heap.size w w' := by
  have HC0 := Aside0.mk hr0
  have hm := hr0.2.1
  have HZ := Aside0.mk (zig_range h1 h2)
  have HE := Aside0.mk (zig_eq h1 h2)
  unfold lim at hl
  clear hr0
  go_enter Tryd.func59, Tryd.ntmps59
  go_wp2_with (first | (go_at_call 81; refine (own_calls A0 _ c0 _ hc0 hm).mono ?_; rintro e w' ⟨rfl, rfl⟩) | (go_at_call 80; refine (digits_calls A0 l0 _ _ HC0.out HZ.out.1 HZ.out.2 hl).mono ?_; rintro e w' ⟨v1, rfl, ho, hb⟩; have HO := Aside0.mk ho; have HB := Aside0.mk hb; clear ho hb))
  go_ret
  exact ⟨_, rfl, by have h := HO.out; rw [HE.out, Int.toNat_natCast] at h; exact h, HB.out⟩
theorem text_calls (A0 : Option Addr) (c0 : Nat) (l0 : List Int) (a1 : ByteArray) (w : World) (hr0 : Kd.C (Kd.int .u8) w A0 l0.length l0) (hc0 : l0.length ≤ c0) (hl : l0.length + a1.size ≤ lim) :
    Calls Tryd.prog 60 #[.slice A0 l0.length c0, .string a1] w fun e w' => ∃ v0_ : Value, e = .returned v0_ ∧ Kd.R (Kd.int .u8) 5 w' w.heap.size (fun _ => True) v0_ (l0 ++ digs a1.size ++ bytesOf a1) ∧ Below w.heap.size w w' := by
  have HC0 := Aside0.mk hr0
  have hs : a1.size ≤ 140737488355000 := by unfold lim at hl; omega
  have HL : Aside0 ((l0 ++ digs a1.size).length + a1.size ≤ 140737488355328) := ⟨by
    have := digs_len10 (n := a1.size) (by omega)
    unfold lim at hl
    simp only [List.length_append]
    omega⟩
  have hl1 : l0.length ≤ lim := by omega
  have e : (IntKind.u64.wrap (a1.size : Int)).toNat = a1.size := by rw [IntKind.wrap_u64]; omega
  have HE := Aside0.mk e
  clear hr0 hl e
  go_enter Tryd.func60, Tryd.ntmps60
  go_wp2_with (first | (go_at_call 82; refine (number_calls A0 c0 l0 (a1.size : Int) _ HC0.out hc0 hl1).mono ?_; rintro e w' ⟨v1, rfl, ho, hb⟩; rw [HE.out] at ho; have HO := Aside0.mk ho; have HB := Aside0.mk hb; have hsz := hb.size; clear ho hb) | (at_builtin; refine print_append_str (w0 := w) w.heap.size rfl (.tmp 8) (.tmp 9) 25 9 5 rfl Tryd.underlying25 Tryd.underlying9 info5 v1 (l0 ++ digs a1.size) a1 rfl rfl ?aO ?aB ?aS ?aL ?_; (case aO => exact Kd.own_of_R HO.out); (case aB => exact HB.out); (case aS => exact hsz); (case aL => exact HL.out); intro v2 w2 ho0 hb hg; have HO2 := Aside0.mk ho0; have HB2 := Aside0.mk hb; clear ho0 hb hg HB))
  go_ret
  exact ⟨_, rfl, Kd.R_of_own (h1 := fun _ => rfl) (ok := fun _ => True) HO2.out (fun _ _ => trivial), HB2.out⟩
end Go.Proofs.YtaddlkokencbkaaDoor.Lay

/- Contracts of slices.Grow at nil and of slices.Concat at rows of bytes: the rows, one behind the other, in new memory. -/
namespace Go.Proofs.YtaddlkokencbkaaDoor.Cat
open Go.RowKit Go.Proofs.YtaddlkokencbkaaDoorW.PrintWords Go.Proofs.YtaddlkokencbkaaDoorW.PrintLast Go.Proofs.YtaddlkokencbkaaDoorW.PrintMore Go.Proofs.YtaddlkokencbkaaDoor.Exact
set_option linter.unusedVariables false
set_option linter.unusedSimpArgs false

theorem own_empty (w : World) (cur : Array Value) (cap : Nat) (hc : cur.size = cap) (hm : cap ≤ maxLen) : Kd.R (Kd.int .u8) 5 (w.alloc (.cells cur 5)) w.heap.size (fun _ => True) (.slice (some ⟨w.heap.size, 0, none⟩) 0 cap) [] :=
  Kd.R_of_own (h1 := fun _ => rfl) (ok := fun _ => True) (xs := []) ⟨rfl, .inr ⟨w.heap.size, cap, cur, rfl, Nat.le_refl _, heap_alloc_new w _, Nat.zero_le _, hm, by omega, by simp [encs]⟩⟩ (fun _ _ => trivial)

set_option maxHeartbeats 1000000 in
theorem grow_calls (n : Nat) (w : World) (h1 : n ≤ Lay.lim) :
    Calls Tryd.prog 90 #[.slice none 0 0, .int .i64 (n : Int)] w fun e w' => ∃ v0_ : Value, e = .returned v0_ ∧ Kd.R (Kd.int .u8) 5 w' w.heap.size (fun _ => True) v0_ [] ∧ Below w.heap.size w w' := by
  unfold Lay.lim at h1
  obtain ⟨i0, hi, hz0, hz1, hz2⟩ := info_parts Lay.info5
  have hi' := Aside0.mk hi
  have hz0' := Aside0.mk hz0
  have hz1' := Aside0.mk hz1
  have hz2' := Aside0.mk hz2
  clear hi hz0 hz1 hz2
  by_cases hn : n = 0
  · subst hn
    go_enter Tryd.func90, Tryd.ntmps90
    go_wp2
    go_ret
    exact ⟨_, rfl, Kd.R_nil _ _ _ _ _, Below.refl _ _⟩
  · have c1 : decide (0 < (n : Int)) = true := by simp; omega
    have hn0 : (0 : Int) < n := by omega
    have NZ := Aside0.mk hn
    clear hn
    go_enter Tryd.func90, Tryd.ntmps90
    go_wp2_with (first | (at_builtin; refine Lib.wpList_append_run _ rfl (.tmp 20) (.tmp 21) 25 3 rfl (.slice none 0 0) (.int .i64 (n : Int)) rfl rfl _ _ (Lib.run_append_nil_zeros w 25 3 _ 5 i0 (.int .u8 0) .i64 .i64 Tryd.underlying25 Tryd.underlying3 hi'.out hz0'.out n ?aN ?aS ?aM ?aB) ?_; (case aN => omega); (case aS => have := hz1'.out; omega); (case aM => omega); (case aB => rw [hz2'.out]; omega)))
    go_ret
    have hge := grownCap_ge w n 0 5
    refine ⟨_, rfl, Kd.R_drew (own_empty w _ _ ?_ (grownCap_le_maxLen w n 0 5 (by simp only [maxLen]; omega))), below_drew (below_alloc (Below.refl _ _) _)⟩
    simp only [Array.size_append, size_zeroCells]
    show n * 1 + (grownCap w n 0 5 - n) * 1 = _
    omega

def ByteRows (w : World) (A : Option Addr) (l : List (List Int)) : Prop := Kd.C (Kd.slice 5 (Kd.int .u8)) w A l.length l
def total (l : List (List Int)) : Nat := l.flatten.length
theorem total_take (l : List (List Int)) (k : Nat) (h : k < l.length) : total (l.take (k + 1)) = total (l.take k) + (l.getD k []).length := by
  unfold total
  rw [List.take_succ_eq_append_getElem h, List.flatten_append, List.length_append]
  simp [List.getD_eq_getElem?_getD, h]
theorem total_le (l : List (List Int)) (k : Nat) : total (l.take k) ≤ total l := by
  unfold total
  conv => rhs; rw [← List.take_append_drop k l, List.flatten_append, List.length_append]
  omega
theorem flatten_take (l : List (List Int)) (k : Nat) (h : k < l.length) : (l.take (k + 1)).flatten = (l.take k).flatten ++ l.getD k [] := by
  rw [List.take_succ_eq_append_getElem h, List.flatten_append]
  simp [List.getD_eq_getElem?_getD, h]
theorem row_at {w : World} {A : Option Addr} {l : List (List Int)} (h : ByteRows w A l) (k : Nat) (hk : k < l.length) :
    ∃ ad A1 c1, A = some ad ∧ w.cell? (ad.add k) = some (.slice A1 (l.getD k []).length c1) ∧ (l.getD k []).length ≤ c1 ∧ Kd.C (Kd.int .u8) w A1 (l.getD k []).length (l.getD k []) := by
  obtain ⟨ad, c, rfl, hl, ⟨A1, c1, rfl, hc, hC⟩, hcell⟩ := Kd.C_get h [] (k : Int) (by omega) (by omega)
  simp only [Int.toNat_natCast] at hc hC hcell
  exact ⟨ad, A1, c1, rfl, by simpa [show (Kd.slice 5 (Kd.int .u8)).sz = 1 from rfl] using hcell 0 _ rfl, hc, hC⟩

def RelS (A0 : Option Addr) (l0 : List (List Int)) (w : World) (v3 v11 : Value) : Prop :=
  ∃ k : Nat, k ≤ l0.length ∧ v11 = .int .i64 (k : Int) ∧ v3 = .int .i64 ((total (l0.take k) : Nat) : Int)
def RelA (A0 : Option Addr) (l0 : List (List Int)) (w : World) (v6 v27 : Value) (wr : World) : Prop :=
  ∃ k : Nat, k ≤ l0.length ∧ v27 = .int .i64 (k : Int) ∧ Kd.R (Kd.int .u8) 5 wr w.heap.size (fun _ => True) v6 (l0.take k).flatten ∧ Below w.heap.size w wr

set_option maxHeartbeats 1000000 in
theorem concat_calls (A0 : Option Addr) (c0 : Nat) (l0 : List (List Int)) (w : World) (hr0 : ByteRows w A0 l0) (hc0 : l0.length ≤ c0) (hl : total l0 ≤ Lay.lim) :
    Calls Tryd.prog 72 #[.slice A0 l0.length c0] w fun e w' => ∃ v0_ : Value, e = .returned v0_ ∧ Kd.R (Kd.int .u8) 5 w' w.heap.size (fun _ => True) v0_ l0.flatten ∧ Below w.heap.size w w' := by
  have hm : l0.length ≤ 9223372036854775807 := hr0.2.1
  have HR := Aside0.mk hr0
  clear hr0
  unfold Lay.lim at hl
  go_enter Tryd.func72, Tryd.ntmps72
  go_wp2
  go_loop [3, 5, 11] (fun v3 _ v11 => RelS A0 l0 w v3 v11) (fun _ _ v11 => l0.length - (intOf v11).toNat)
  case atStart => exact ⟨0, Nat.zero_le _, rfl, rfl⟩
  case round =>
    obtain ⟨k, hk, rfl, rfl⟩ := hrel
    have hT := total_le l0 k
    by_cases hlt : k < l0.length
    · have c1 : decide (k < l0.length) = true := decide_eq_true hlt
      obtain ⟨ad, A1, c1', rfl, hcell, hc1, _⟩ := row_at HR.out k hlt
      have hT2 := total_le l0 (k + 1)
      have HT := Aside0.mk (total_take l0 k hlt)
      have h3 : total (l0.take k) + (l0.getD k []).length ≤ 140737488355000 := by rw [← HT.out]; omega
      generalize hm : (l0.getD k []).length = m at *
      go_wp2
      go_round
      case rel => exact ⟨k + 1, by omega, by go_num, by rw [HT.out]; go_num⟩
      case measure => simp [intOf]; omega
    · have c1 : decide (k < l0.length) = false := decide_eq_false hlt
      have e1 : l0.take k = l0 := List.take_of_length_le (by omega)
      rw [e1]
      clear e1 hT
      have hT : total l0 ≤ Lay.lim := by unfold Lay.lim; exact hl
      go_wp2_with (first | (go_at_call 90; go_must (refine (grow_calls (total l0) _ hT).mono ?_); rintro e w1 ⟨v1, rfl, ho, hb⟩; have HO := Aside0.mk ho; have HB := Aside0.mk hb; clear ho hb))
      go_loopw [6, 8, 27] (fun v6 _ v27 wr => RelA A0 l0 w v6 v27 wr) (fun _ _ v27 _ => l0.length - (intOf v27).toNat)
      case atStart => exact ⟨0, Nat.zero_le _, rfl, HO.out, HB.out⟩
      case round =>
        obtain ⟨k, hk, rfl, ho, hb⟩ := hrel
        have hcr : ByteRows wr A0 l0 := Kd.C_below HR.out hb
        have HO1 := Aside0.mk ho
        have HB1 := Aside0.mk hb
        have hsz := hb.size
        clear ho hb
        by_cases hlt : k < l0.length
        · have c1 : decide (k < l0.length) = true := decide_eq_true hlt
          obtain ⟨ad, A1, c1', rfl, hcell, hc1, hC⟩ := row_at hcr k hlt
          have HC := Aside0.mk hC
          have hT2 := total_le l0 (k + 1)
          have HF := Aside0.mk (flatten_take l0 k hlt)
          have HL : Aside0 ((l0.take k).flatten.length + (l0.getD k []).length ≤ 140737488355328) := ⟨by have h := total_take l0 k hlt; unfold total at h hT2 hl; omega⟩
          clear hcr hC hT2
          generalize hm : (l0.getD k []) = m at *
          go_wp2_with (first | (at_builtin; refine R_append_row (w0 := w) w.heap.size rfl (.tmp 31) (.tmp 32) 25 5 .u8 1 rfl Tryd.underlying25 Lay.info5 (by decide) u6 (l0.take k).flatten m A1 m.length c1' rfl rfl ?aO ?aR ?aB ?aS ?aL ?_; (case aO => exact HO1.out); (case aR => exact HC.out); (case aB => exact HB1.out); (case aS => exact hsz); (case aL => have := HL.out; omega); intro v2 w2 ho hb hg; have HO2 := Aside0.mk ho; have HB2 := Aside0.mk hb; clear ho hb hg))
          go_roundw
          case rel => exact ⟨k + 1, by omega, by go_num, by rw [HF.out]; exact HO2.out, HB2.out⟩
          case measure => simp [intOf]; omega
        · have c1 : decide (k < l0.length) = false := decide_eq_false hlt
          have e1 : l0.take k = l0 := List.take_of_length_le (by omega)
          rw [e1] at HO1
          clear e1 hcr
          go_wp2
          go_ret
          exact ⟨_, rfl, HO1.out, HB1.out⟩
end Go.Proofs.YtaddlkokencbkaaDoor.Cat
