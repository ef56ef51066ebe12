/- Words of this session: an append to a byte slice that came in and has no spare room makes a row of the call's own; the digits of a number to the base 128. -/
import Derived.Test.YtaddlkokencbkaaDoorWWords
import Derived.ArgAppend
import Derived.Lib.Zigzag
namespace Go.Proofs.YtaddlkokencbkaaDoor.Exact
open Go.RowKit Go.Proofs.YtaddlkokencbkaaDoorW.PrintWords

theorem nums_encs (l : List Int) : nums .u8 l = encs (Value.int .u8) l := rfl

section
variable {P : Program} {ops : Array Oper} {rest : List Oper} {o : Oper} {a : Act} {Q : Exit → Act → World → Prop}
/-- append(v, x), v a slice whose capacity is its length; the goal's world is 'W.alloc' of the variadic's box. -/
theorem append_exact {w0 W : World} (base : Nat) (hgd : o.guard = none) (s x : Operand) (t e : TypeId) (k : IntKind) (bytes : Nat)
    (ho : o.op = .call { callee := .builtin .append, args := #[s, x], argTypes := #[t, t] })
    (ht : P.underlying t = some (.slice e)) (hinfo : (P.info? e).map (fun i => (i.zero, i.size, i.bytes)) = some (some (.int k 0), 1, bytes))
    (A : Option Addr) (l : List Int) (y : Int) (hs : a.eval s = .slice A l.length l.length) (hx : a.eval x = .slice (some ⟨W.heap.size, 0, none⟩) 1 1)
    (HC : Kd.C (Kd.int k) W A l.length l) (HB : Below base w0 W) (hbase : base ≤ W.heap.size) (hl : (l.length + 1) * bytes ≤ 140737488355328) (hl2 : l.length + 1 ≤ 140737488355328)
    (h : ∀ v1 w1, Kd.R (Kd.int k) e w1 base (fun _ => True) v1 (l ++ [y]) → Below base w0 w1 → W.grownBy w1 none → wpList P ops Q rest (a.put o.dst v1) w1) :
    wpList P ops Q (o :: rest) a (W.alloc (.cells #[.int k y] e)) := by
  obtain ⟨i0, hi, hzz⟩ := Option.map_eq_some_iff.1 hinfo
  simp only [Prod.mk.injEq] at hzz
  obtain ⟨hz0, hz1, hz2⟩ := hzz
  have HR := Kd.reads_of_C (d := (0 : Int)) HC
  have hA : A = none → l.length = 0 ∧ l.length = 0 := by
    intro hn
    rcases Nat.eq_zero_or_pos l.length with h0 | h0
    · exact ⟨h0, h0⟩
    · obtain ⟨ad, e, _⟩ := HR.2.2 h0
      rw [hn] at e
      cases e
  refine wpList_append_grows (W.alloc (.cells #[.int k y] e)) hgd s x t ho e i0 (.int k 0) 1 bytes ht hi hz0 hz1 hz2 rfl (by omega) A l.length l.length (nums k l) hs hA (by simp [nums]) ?_
    ⟨W.heap.size, 0, none⟩ 1 1 [.int k y] hx rfl (World.news_of_block (cs := #[.int k y]) (t := e) (fr := (0, 0)) (heap_alloc_new W _)) (by simp [Value.oneCell']) (by omega) (by simp only [maxLen]; omega) hl ?_
  · rintro b rfl j u hj
    have hjl : j < l.length := by
      rcases Nat.lt_or_ge j l.length with hlt | hge
      · exact hlt
      · rw [List.getElem?_eq_none (by simpa [nums] using hge)] at hj; cases hj
    obtain ⟨ad, e1, hc⟩ := HR.2.2 (by omega)
    injection e1 with e1
    subst e1
    have h2 := hc j hjl
    have e3 : u = .int k (l.getD j 0) := by
      simp [nums, List.getElem?_map, List.getElem?_eq_getElem hjl] at hj
      rw [← hj]
      simp [List.getD_eq_getElem?_getD, List.getElem?_eq_getElem hjl]
    rw [e3]
    exact pw_cell_below (below_alloc (Below.refl _ _) _) h2
  · intro v1 w1 hown hg
    have hb1 : Below base w0 w1 := (HB.alloc hbase _).grown hg (by simp; omega) (by simp)
    have hlen : l.length + 1 = (l ++ [y]).length := by simp
    have hc : nums k l ++ [.int k y] = encs (Value.int k) (l ++ [y]) := by simp [nums, encs]
    rw [hlen, hc] at hown
    refine h v1 w1 (Kd.R_lower (Kd.R_of_own (h1 := fun _ => rfl) (ok := fun _ => True) hown (fun _ _ => trivial)) (by simp; omega)) hb1 (World.grownBy.trans (World.grownBy_alloc W _ _) hg)
/-- append(v, x), v a row of whole numbers of the call's own; the number is met from the goal. -/
theorem R_append_num {w0 W : World} (base : Nat) (hgd : o.guard = none) (s x : Operand) (t e : TypeId) (k : IntKind) (bytes : Nat)
    (ho : o.op = .call { callee := .builtin .append, args := #[s, x], argTypes := #[t, t] })
    (ht : P.underlying t = some (.slice e)) (hinfo : (P.info? e).map (fun i => (i.zero, i.size, i.bytes)) = some (some (.int k 0), 1, bytes)) (hb0 : 0 < bytes)
    (v : Value) (l : List Int) (y : Int) (hs : a.eval s = v) (hx : a.eval x = .slice (some ⟨W.heap.size, 0, none⟩) 1 1)
    (HO : Kd.R (Kd.int k) e W base (fun _ => True) v l) (HB : Below base w0 W) (hbase : base ≤ W.heap.size) (hl : (l.length + 1) * bytes ≤ 140737488355328)
    (h : ∀ v1 w1, Kd.R (Kd.int k) e w1 base (fun _ => True) v1 (l ++ [y]) → Below base w0 w1 → W.grownBy w1 v.ownBlock → wpList P ops Q rest (a.put o.dst v1) w1) :
    wpList P ops Q (o :: rest) a (W.alloc (.cells #[.int k y] e)) :=
  Kd.R_append (Kd.int k) base hgd s x t e (.int k 0) bytes ho ht hinfo rfl (show 0 < 1 by decide) hb0 v l y [.int k y] (fun _ => True) (fun _ => False) hs hx rfl (fun _ hk => hk.elim) (fun _ _ => trivial) HO HB hbase hl
    fun v1 w1 h1 h2 h3 _ => h v1 w1 h1 h2 h3
/-- append(v, ys...), v a row of whole numbers of the call's own. -/
theorem R_append_row {w0 W : World} (base : Nat) (hgd : o.guard = none) (s x : Operand) (t e : TypeId) (k : IntKind) (bytes : Nat)
    (ho : o.op = .call { callee := .builtin .append, args := #[s, x], argTypes := #[t, t] })
    (ht : P.underlying t = some (.slice e)) (hinfo : (P.info? e).map (fun i => (i.zero, i.size, i.bytes)) = some (some (.int k 0), 1, bytes)) (hb0 : 0 < bytes)
    (v : Value) (l m : List Int) (A : Option Addr) (n c : Nat) (hs : a.eval s = v) (hx : a.eval x = .slice A n c)
    (HO : Kd.R (Kd.int k) e W base (fun _ => True) v l) (HR : Kd.C (Kd.int k) W A n m) (HB : Below base w0 W) (hbase : base ≤ W.heap.size) (hl : (l.length + n) * bytes ≤ 140737488355328)
    (h : ∀ v1 w1, Kd.R (Kd.int k) e w1 base (fun _ => True) v1 (l ++ m) → Below base w0 w1 → W.grownBy w1 v.ownBlock → wpList P ops Q rest (a.put o.dst v1) w1) :
    wpList P ops Q (o :: rest) a W :=
  Kd.R_append_row (Value.int k) (0 : Int) (h1 := fun _ => rfl) base hgd s x t e (.int k 0) bytes ho ht hinfo rfl hb0 v l m A n c (fun _ => True) hs hx (fun _ _ => trivial) HO HR HB hbase hl
    fun v1 w1 h1 h2 h3 _ => h v1 w1 h1 h2 h3
end

/-- A number's digits to the base 128, the least one first, all but the last with 128 more. -/
def digs (n : Nat) : List Int := if n < 128 then [(n : Int)] else ((n % 128 + 128 : Nat) : Int) :: digs (n / 128)
termination_by n
decreasing_by omega
theorem digs_small {n : Nat} (h : n < 128) : digs n = [(n : Int)] := by rw [digs, if_pos h]
theorem digs_big {n : Nat} (h : ¬ n < 128) : digs n = ((n % 128 + 128 : Nat) : Int) :: digs (n / 128) := by rw [digs, if_neg h]
theorem digs_len : ∀ (k n : Nat), n < 128 ^ (k + 1) → (digs n).length ≤ k + 1
  | 0, n, h => by rw [digs_small (by simpa using h)]; simp
  | k + 1, n, h => by
    by_cases hs : n < 128
    · rw [digs_small hs]; simp
    · rw [digs_big hs]
      have : n / 128 < 128 ^ (k + 1) := by
        rw [Nat.div_lt_iff_lt_mul (by omega)]
        rw [Nat.pow_succ] at h
        exact h
      have := digs_len k (n / 128) this
      simp only [List.length_cons]
      omega
theorem digs_len10 {n : Nat} (h : n < 18446744073709551616) : (digs n).length ≤ 10 := digs_len 9 n (by
  have : (128 : Nat) ^ (9 + 1) = 1180591620717411303424 := by decide
  omega)
theorem digs_pos (n : Nat) : 0 < (digs n).length := by
  by_cases hs : n < 128
  · rw [digs_small hs]; simp
  · rw [digs_big hs]; simp

theorem byte_or (n : Nat) : Go.bits .or .u8 ((n : Int) % 256) 128 = ((n % 128 + 128 : Nat) : Int) := by
  have h : ∀ m : Fin 256, Go.bits .or .u8 ((m.val : Nat) : Int) 128 = ((m.val % 128 + 128 : Nat) : Int) := by decide +kernel
  have := h ⟨n % 256, Nat.mod_lt _ (by omega)⟩
  simp only at this
  rw [show ((n : Int) % 256) = ((n % 256 : Nat) : Int) by omega, this]
  congr 2
  omega

/-- A signed number as one from 0 on, as the package computes it. -/
theorem zig_eq {a : Int} (h1 : -9223372036854775808 ≤ a) (h2 : a ≤ 9223372036854775807) :
    bits .xor .u64 (IntKind.u64.wrap (IntKind.u64.wrap a * 2)) (IntKind.u64.wrap (a / 9223372036854775808)) = ((Lib.zigzag a : Nat) : Int) := by
  by_cases h : 0 ≤ a
  · have e1 : IntKind.u64.wrap (IntKind.u64.wrap a * 2) = (((2 * a).toNat : Nat) : Int) := by
      rw [IntKind.wrap_u64, IntKind.wrap_u64]
      omega
    have e2 : IntKind.u64.wrap (a / 9223372036854775808) = ((0 : Nat) : Int) := by
      rw [IntKind.wrap_u64]
      omega
    rw [e1, e2, bits_xor_u64_nat _ _ (by omega) (by decide), Nat.xor_zero]
    unfold Lib.zigzag
    rw [if_pos h]
  · have e1 : IntKind.u64.wrap (IntKind.u64.wrap a * 2) = (((2 * a + 18446744073709551616).toNat : Nat) : Int) := by
      rw [IntKind.wrap_u64, IntKind.wrap_u64]
      omega
    have e2 : IntKind.u64.wrap (a / 9223372036854775808) = ((2 ^ 64 - 1 : Nat) : Int) := by
      rw [IntKind.wrap_u64]
      omega
    rw [e1, e2, bits_xor_u64_nat _ _ (by omega) (by decide), Nat.xor_comm, Lib.xor_ones64 _ (by omega)]
    unfold Lib.zigzag
    rw [if_neg h]
    omega
end Go.Proofs.YtaddlkokencbkaaDoor.Exact
