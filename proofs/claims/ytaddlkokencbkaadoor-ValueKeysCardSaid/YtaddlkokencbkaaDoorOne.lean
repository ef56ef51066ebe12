/- value.one, by hand: the value at the beginning of a key, and what is left. -/
import Derived.Test.YtaddlkokencbkaaDoorText
import Derived.Test.YtaddlkokencbkaaDoorMay3
import Derived.Test.YtaddlkokencbkaaDoorVKeyW
import Derived.Test.YtaddlkokencbkaaDoorPlain
import Derived.Deep.CutBlock
import Derived.Deep.DeepCutAuto
import Derived.Outline
import Derived.Deep.RegionWith
import Derived.Laws.BitsAllLaws
namespace Go.Proofs.YtaddlkokencbkaaDoor.One
open Go.RowKit Go.Proofs.YtaddlkokencbkaaDoorW.PrintWords Go.Proofs.YtaddlkokencbkaaDoorW.PrintLast Go.Proofs.YtaddlkokencbkaaDoorW.PrintMore Go.Proofs.YtaddlkokencbkaaDoor.Text Go.Proofs.YtaddlkokencbkaaDoor.May Go.Proofs.YtaddlkokencbkaaDoor.VKey Go.Proofs.YtaddlkokencbkaaDoor.Shelf
set_option linter.unusedVariables false
set_option linter.unusedSimpArgs false
/-- A whole number's bytes, the first of most weight. -/
def numL (l : List Int) : Int := l.foldl (fun a b => a * 256 + b) 0
/-- The middle of value.one: number, text, what is left, whether there is one. -/
def oneM (k : UInt8) (r : ByteArray) : Int × ByteArray × ByteArray × Bool :=
  if k.toNat = 1 then (if r.size = 0 then (0, ⟨#[]⟩, r, false) else (bt r 0, ⟨#[]⟩, r.extract 1 r.size, true))
  else if k.toNat = 2 then (if 8 ≤ r.size then (numL ((bytesOf r).take 8) - 9223372036854775808, ⟨#[]⟩, r.extract 8 r.size, true) else (0, ⟨#[]⟩, r, false))
  else if k.toNat = 3 ∨ k.toNat = 4 then (match textP r.data.toList with
    | none => (0, ⟨#[]⟩, ⟨#[]⟩, false)
    | some (t, r') => (0, ⟨t.toArray⟩, ⟨r'.toArray⟩, true))
  else (0, ⟨#[]⟩, r, true)
abbrev blkV (k n : Int) (t : ByteArray) : Obj := .cells #[.int .i64 k, .int .i64 n, .string t] 51
theorem textP_len : ∀ (m : Nat) (l t r : List UInt8), l.length ≤ m → textP l = some (t, r) → t.length ≤ m
  | m, [], _, _, _, h => by rw [textP_short (by simp)] at h; cases h
  | m, [_], _, _, _, h => by rw [textP_short (by simp)] at h; cases h
  | 0, _ :: _ :: _, _, _, hl, _ => by simp at hl
  | m + 1, c :: d :: l, t, r, hl, h => by
    rw [textP] at h
    have hl2 : (d :: l).length ≤ m := by simpa using hl
    split at h
    · split at h
      · simp only [Option.some.injEq, Prod.mk.injEq] at h
        rw [← h.1]
        exact Nat.zero_le _
      · split at h
        · obtain ⟨p, hp, e⟩ := Option.map_eq_some_iff.1 h
          simp only [Prod.mk.injEq] at e
          have := textP_len m l p.1 p.2 (by simp at hl2; omega) hp
          rw [← e.1]; simpa using this
        · cases h
    · obtain ⟨p, hp, e⟩ := Option.map_eq_some_iff.1 h
      simp only [Prod.mk.injEq] at e
      have := textP_len m (d :: l) p.1 p.2 hl2 hp
      rw [← e.1]; simpa using this
theorem oneM_size (k : UInt8) (r : ByteArray) (hr : r.size ≤ 100000) : (oneM k r).2.1.size ≤ 100000 := by
  have hl : r.data.toList.length = r.size := by rw [Array.length_toList]; rfl
  unfold oneM
  split
  · split <;> exact Nat.zero_le _
  · split
    · split <;> exact Nat.zero_le _
    · split
      · cases h : textP r.data.toList with
        | none => exact Nat.zero_le _
        | some p =>
          have := textP_len _ _ p.1 p.2 (Nat.le_refl _) h
          show (Array.size _) ≤ _
          simp
          omega
      · exact Nat.zero_le _
/-- The two values in memory. -/
def Mid (w : World) (k n : Int) (t : ByteArray) (wx : World) : Prop :=
  wx.heap[w.heap.size]? = some (blkV 0 0 ⟨#[]⟩) ∧ wx.heap[w.heap.size + 1]? = some (blkV k n t) ∧ Below w.heap.size w wx
theorem Mid.text {w : World} {k n : Int} {t : ByteArray} {wx : World} (h : Mid w k n t wx) (t' : ByteArray) : Mid w k n t' (wx.setCell ⟨w.heap.size + 1, 2, none⟩ (.string t')) :=
  ⟨blk_far h.1 (by simp) _, blk_put h.2.1 2 _ rfl, h.2.2.setCell (p := ⟨w.heap.size + 1, 2, none⟩) (by simp) _⟩
theorem Mid.num {w : World} {k n : Int} {t : ByteArray} {wx : World} (h : Mid w k n t wx) (n' : Int) : Mid w k n' t (wx.setCell ⟨w.heap.size + 1, 1, none⟩ (.int .i64 n')) :=
  ⟨blk_far h.1 (by simp) _, blk_put h.2.1 1 _ rfl, h.2.2.setCell (p := ⟨w.heap.size + 1, 1, none⟩) (by simp) _⟩
theorem Mid.below {w : World} {k n : Int} {t : ByteArray} {w1 w2 : World} (h : Mid w k n t w1) (hb : Below w1.heap.size w1 w2) : Mid w k n t w2 :=
  ⟨blk_below h.1 hb, blk_below h.2.1 hb, below_step h.2.2 hb⟩
theorem Mid.drew {w : World} {k n : Int} {t : ByteArray} {w1 : World} (h : Mid w k n t w1) : Mid w k n t w1.drew := ⟨h.1, h.2.1, h.2.2.drew⟩
theorem text_c (s a b : ByteArray) (c : Bool) (w : World) (hs : s.size ≤ 100000) (h : textR s = .tuple #[.string a, .string b, .bool c]) :
    Calls Tryd.prog 79 #[.string s] w fun e w' => e = .returned (.tuple #[.string a, .string b, .bool c]) ∧ Below w.heap.size w w' := by
  rw [← h]
  exact text_calls s w hs
theorem toList_nil (s : ByteArray) : (s.toList == ([] : List UInt8)) = decide (s.size = 0) := by
  rw [Lib.toList_data]
  have : s.data.toList.length = s.size := by rw [Array.length_toList]; rfl
  cases h : s.data.toList with
  | nil => rw [h] at this; simp at this; simp [← this]
  | cons a l => rw [h] at this; simp at this; simp [← this]
theorem numL_snoc (l : List Int) (c : Int) : numL (l ++ [c]) = numL l * 256 + c := by unfold numL; rw [List.foldl_append]; rfl
theorem numL_range : ∀ (n : Nat) (l : List Int), l.length = n → Plain.Bytes l → 0 ≤ numL l ∧ numL l < 256 ^ n
  | 0, l, h, _ => by
    obtain rfl := List.eq_nil_of_length_eq_zero h
    exact ⟨by decide, by decide⟩
  | n + 1, l, h, hb => by
    obtain ⟨m, c, rfl⟩ : ∃ m c, l = m ++ [c] := ⟨l.dropLast, l.getLast (by intro e; rw [e] at h; simp at h), (List.dropLast_concat_getLast _).symm⟩
    have := numL_range n m (by simpa using h) (fun x hx => hb x (List.mem_append_left _ hx))
    have hc := hb c (by simp)
    rw [numL_snoc, Int.pow_succ]
    generalize (256 : Int) ^ n = q at this ⊢
    omega
theorem or_byte (N : Int) (c : UInt8) (h0 : 0 ≤ N) (h1 : N < 72057594037927936) : Go.bits .or .u64 (IntKind.u64.wrap (N * 256)) (IntKind.u64.wrap (c.toNat : Int)) = N * 256 + (c.toNat : Int) := by
  have hc := c.toNat_lt
  obtain ⟨m, rfl⟩ := Int.eq_ofNat_of_zero_le h0
  have e1 : IntKind.u64.wrap ((m : Int) * 256) = ((m * 256 : Nat) : Int) := by rw [IntKind.wrap_u64]; omega
  have e2 : IntKind.u64.wrap (c.toNat : Int) = ((c.toNat : Nat) : Int) := by rw [IntKind.wrap_u64]; omega
  have e3 : m * 256 ||| c.toNat = m * 256 + c.toNat := by
    have := Nat.shiftLeft_add_eq_or_of_lt (i := 8) (b := c.toNat) (by omega) m
    rw [Nat.shiftLeft_eq] at this
    exact this.symm
  rw [e1, e2, u64_or_nat _ _ (by omega) (by omega), e3]
  omega
theorem xor_top (N : Int) (h0 : 0 ≤ N) (h1 : N < 18446744073709551616) : IntKind.i64.wrap (Go.bits .xor .u64 N 9223372036854775808) = N - 9223372036854775808 := by
  obtain ⟨m, rfl⟩ := Int.eq_ofNat_of_zero_le h0
  rw [show ((9223372036854775808 : Int)) = ((9223372036854775808 : Nat) : Int) by rfl, u64_xor_nat m 9223372036854775808 (by omega) (by omega), VKey.nat_xor_top (by omega), IntKind.wrap_i64]
  omega
theorem byte_take (r : ByteArray) (i : Nat) (h : i < r.size) (c : UInt8) (hc : r[i]'h = c) : (bytesOf r).take (i + 1) = (bytesOf r).take i ++ [(c.toNat : Int)] := by
  have hlt : i < (bytesOf r).length := by rw [bytesOf_length]; omega
  have hb : (bytesOf r)[i] = bt r (i : Int) := by
    rw [← rd_bytesOf]
    unfold rd
    simp [List.getD_eq_getElem?_getD, List.getElem?_eq_getElem hlt]
  rw [List.take_succ_eq_append_getElem hlt, hb, ← bt_at r (i : Int) h]
  congr 3
  rw [← hc]
  rfl
set_option maxHeartbeats 4000000 in
set_option maxRecDepth 100000 in
theorem one_calls (k : UInt8) (r s : ByteArray) (w : World) (hs : s.size ≤ 100000) (h0 : s[0]? = some k) (hr : s.extract 1 s.size = r) (n : Int) (t rest : ByteArray) (is : Bool) (hm : oneM k r = (n, t, rest, is)) (hT : Tabs w) :
    Calls Tryd.prog 58 #[.string s] w fun e w' => e = .returned (.tuple #[.agg #[.int .i64 (k.toNat : Int), .int .i64 n, .string t], .string rest, .bool (is && mayB (k.toNat : Int) n t)]) ∧ Below w.heap.size w w' := by
  have HM := Aside0.mk hm
  have HT := Aside0.mk hT
  clear hm hT
  go_enter Tryd.func58, Tryd.ntmps58
  have hz : 0 < s.size := by
    rcases Nat.lt_or_ge 0 s.size with h | h
    · exact h
    · rw [ByteArray.getElem?_ge' s 0 (by omega)] at h0; cases h0
  have hk : s[0]'hz = k := by
    rw [ByteArray.getElem?_lt' s 0 hz] at h0
    exact Option.some.inj h0
  clear h0
  have kl := k.toNat_lt
  have hz1 : 1 ≤ s.size := hz
  have hz2 : (1 : Int) ≤ (s.size : Int) := by omega
  have hz3 : (0 : Int) < (s.size : Int) := by omega
  have hkw : IntKind.i64.wrap (k.toNat : Int) = (k.toNat : Int) := by rw [IntKind.wrap_i64]; omega
  have hrs : r.size ≤ 100000 := by rw [← hr, ByteArray.size_extract]; omega
  go_wp2
  go_region
  go_upto_block 0 with fail
  have B2 := blk_drew (blk_below (blk_new w (blkV 0 0 ⟨#[]⟩)) (below_alloc (Below.refl _ _) (blkV (k.toNat : Int) 0 ⟨#[]⟩)))
  have B5 := blk_drew (blk_new (w.alloc (blkV 0 0 ⟨#[]⟩)) (blkV (k.toNat : Int) 0 ⟨#[]⟩))
  rw [show (w.alloc (blkV 0 0 ⟨#[]⟩)).heap.size = w.heap.size + 1 by simp] at B5
  have HB := (below_alloc (below_alloc (Below.refl w.heap.size w) (blkV 0 0 ⟨#[]⟩)) (blkV (k.toNat : Int) 0 ⟨#[]⟩)).drew
  have MID : Aside0 (Mid w (k.toNat : Int) 0 ⟨#[]⟩ ((w.alloc (blkV 0 0 ⟨#[]⟩)).alloc (blkV (k.toNat : Int) 0 ⟨#[]⟩)).drew) := ⟨B2, B5, HB⟩
  clear B2 B5 HB hk hkw hr
  change Code.wp _ _ _ _ ((w.alloc (blkV 0 0 ⟨#[]⟩)).alloc (blkV (k.toNat : Int) 0 ⟨#[]⟩)).drew
  generalize ((w.alloc (blkV 0 0 ⟨#[]⟩)).alloc (blkV (k.toNat : Int) 0 ⟨#[]⟩)).drew = W2 at MID ⊢
  obtain ⟨K, hK⟩ : ∃ K : Int, (k.toNat : Int) = K := ⟨_, rfl⟩
  have hK0 : 0 ≤ K ∧ K < 256 := by omega
  have HK := Aside0.mk hK
  rw [hK] at MID ⊢
  have m0 := blk_cell MID.out.2.1 0
  have m1 := blk_cell MID.out.2.1 1
  have m2 := blk_cell MID.out.2.1 2
  have f1 := blk_frozen MID.out.2.1 1
  have f2 := blk_frozen MID.out.2.1 2
  clear hK
  go_cut [0, 6] from 15 to 60 (fun v0 v6 wx => v0 = .string rest ∧ v6 = .bool is ∧ Mid w K n t wx)
  case first =>
    by_cases c1 : K = 1
    · have d1 : (K == 1) = true := by rw [c1]; rfl
      have CC := Aside0.mk c1
      clear c1
      by_cases hr0 : r.size = 0
      · have he : (r.toList == ([] : List UInt8)) = true := by rw [toList_nil]; simpa using hr0
        have E : Aside0 (oneM k r = (0, ⟨#[]⟩, r, false)) := ⟨by
          have := HK.out
          have := CC.out
          unfold oneM
          rw [if_pos (by omega), if_pos hr0]⟩
        go_wp2_with fail
        go_meet
        have e := HM.out.symm.trans E.out
        simp only [Prod.mk.injEq] at e
        obtain ⟨rfl, rfl, rfl, rfl⟩ := e
        exact ⟨rfl, rfl, MID.out⟩
      · have he : (r.toList == ([] : List UInt8)) = false := by rw [toList_nil]; simpa using hr0
        have E : Aside0 (oneM k r = (bt r 0, ⟨#[]⟩, r.extract 1 r.size, true)) := ⟨by
          have := HK.out
          have := CC.out
          unfold oneM
          rw [if_pos (by omega), if_neg hr0]⟩
        have hy : 0 < r.size := by omega
        have hy1 : 1 ≤ r.size := hy
        have hy2 : (1 : Int) ≤ (r.size : Int) := by omega
        have hy3 : (0 : Int) < (r.size : Int) := by omega
        obtain ⟨c, hc⟩ : ∃ c, r[0]'hy = c := ⟨_, rfl⟩
        have hbt : bt r 0 = (c.toNat : Int) := by
          rw [← hc]
          exact (bt_at r 0 hy).symm
        have HBT := Aside0.mk hbt
        clear hbt
        have cl := c.toNat_lt
        have hcw : IntKind.i64.wrap (c.toNat : Int) = (c.toNat : Int) := by rw [IntKind.wrap_i64]; omega
        go_wp2_with fail
        go_region
        all_goals
          go_wp2_with fail
          go_meet
          have e := HM.out.symm.trans E.out
          rw [HBT.out] at e
          simp only [Prod.mk.injEq] at e
          obtain ⟨rfl, rfl, rfl, rfl⟩ := e
          first | exact ⟨rfl, rfl, MID.out.drew.num _⟩ | exact ⟨rfl, rfl, (MID.out.num _).drew⟩
    · have d1 : (K == 1) = false := by simpa using c1
      by_cases c2 : K = 2
      · have d2 : (K == 2) = true := by rw [c2]; rfl
        have CC := Aside0.mk c2
        clear c2
        by_cases h8 : 8 ≤ r.size
        · have d8 : decide ((r.size : Int) ≥ 8) = true := decide_eq_true (by omega)
          go_wp2_with fail
          go_loopw [7, 8, 34] (fun v7 v8 v34 wr => ∃ i : Nat, v34 = .int .i64 (i : Int) ∧ i ≤ 8 ∧ v7 = .int .u64 (numL ((bytesOf r).take i)) ∧ wr = W2) (fun _ _ v34 _ => (8 - intOf v34).toNat)
          case atStart => exact ⟨0, rfl, by omega, rfl, rfl⟩
          case round =>
            obtain ⟨i, rfl, hi, rfl, rfl⟩ := hrel
            by_cases hil : i < 8
            · have e1 : decide ((i : Int) < 8) = true := decide_eq_true (by omega)
              have hy : i < r.size := by omega
              have hy2 : (i : Int) < (r.size : Int) := by omega
              obtain ⟨c, hc⟩ : ∃ c, r[i]'hy = c := ⟨_, rfl⟩
              obtain ⟨N, hN⟩ : ∃ N, numL ((bytesOf r).take i) = N := ⟨_, rfl⟩
              have HN := Aside0.mk hN
              have HC := Aside0.mk hc
              rw [hN]
              clear hN
              have HR : Aside0 (0 ≤ N ∧ N < 72057594037927936) := ⟨by
                have h := numL_range i ((bytesOf r).take i) (by rw [List.length_take, bytesOf_length]; omega) (fun x hx => Plain.bytesOf_bytes r x (List.mem_of_mem_take hx))
                rw [HN.out] at h
                have : (256 : Int) ^ i ≤ 256 ^ 7 := by exact_mod_cast Nat.pow_le_pow_right (n := 256) (by decide) (show i ≤ 7 by omega)
                exact ⟨h.1, by omega⟩⟩
              have HNN : Aside0 (numL ((bytesOf r).take (i + 1)) = N * 256 + (c.toNat : Int)) := ⟨by rw [byte_take r i hy c HC.out, numL_snoc, HN.out]⟩
              go_wp2
              go_roundw
              case rel => exact ⟨i + 1, by go_num, by omega, by rw [or_byte N c HR.out.1 HR.out.2, HNN.out], trivial⟩
              case measure => simp [intOf]; omega
            · have e1 : decide ((i : Int) < 8) = false := decide_eq_false (by omega)
              obtain rfl : i = 8 := by omega
              obtain ⟨N, hN⟩ : ∃ N, numL ((bytesOf r).take 8) = N := ⟨_, rfl⟩
              have HN := Aside0.mk hN
              rw [hN]
              clear hN
              have HR : Aside0 (0 ≤ N ∧ N < 18446744073709551616) := ⟨by
                have h := numL_range 8 ((bytesOf r).take 8) (by rw [List.length_take, bytesOf_length]; omega) (fun x hx => Plain.bytesOf_bytes r x (List.mem_of_mem_take hx))
                rw [HN.out] at h
                exact ⟨h.1, by omega⟩⟩
              obtain ⟨M, hM⟩ : ∃ M, Go.bits .xor .u64 N 9223372036854775808 = M := ⟨_, rfl⟩
              obtain ⟨Q, hQ⟩ : ∃ Q, IntKind.i64.wrap M = Q := ⟨_, rfl⟩
              have HQ : Aside0 (N - 9223372036854775808 = Q) := ⟨by rw [← hQ, ← hM, xor_top N HR.out.1 HR.out.2]⟩
              have E : Aside0 (oneM k r = (Q, ⟨#[]⟩, r.extract 8 r.size, true)) := ⟨by
                have := HK.out
                have := CC.out
                unfold oneM
                rw [if_neg (by omega), if_pos (by omega), if_pos h8, HN.out, HQ.out]⟩
              have hy2 : (8 : Int) ≤ (r.size : Int) := by omega
              go_wp2_with fail
              go_region
              all_goals
                go_wp2_with fail
                go_meet
                have e := HM.out.symm.trans E.out
                simp only [Prod.mk.injEq] at e
                obtain ⟨rfl, rfl, rfl, rfl⟩ := e
                first | exact ⟨rfl, rfl, MID.out.drew.num _⟩ | exact ⟨rfl, rfl, (MID.out.num _).drew⟩
        · have d8 : decide ((r.size : Int) ≥ 8) = false := decide_eq_false (by omega)
          have E : Aside0 (oneM k r = (0, ⟨#[]⟩, r, false)) := ⟨by
            have := HK.out
            have := CC.out
            unfold oneM
            rw [if_neg (by omega), if_pos (by omega), if_neg h8]⟩
          go_wp2_with fail
          go_meet
          have e := HM.out.symm.trans E.out
          simp only [Prod.mk.injEq] at e
          obtain ⟨rfl, rfl, rfl, rfl⟩ := e
          exact ⟨rfl, rfl, MID.out⟩
      · have d2 : (K == 2) = false := by simpa using c2
        by_cases c3 : K = 3
        · have d3 : (K == 3) = true := by rw [c3]; rfl
          have CC := Aside0.mk c3
          clear c3
          obtain ⟨a, b, c, hR, hE⟩ : ∃ a b c, textR r = .tuple #[.string a, .string b, .bool c] ∧ oneM k r = (0, a, b, c) := by
            have := HK.out
            have := CC.out
            unfold textR oneM
            rw [if_neg (by omega), if_neg (by omega), if_pos (by omega)]
            cases textP r.data.toList with
            | none => exact ⟨_, _, _, rfl, rfl⟩
            | some p => exact ⟨_, _, _, rfl, rfl⟩
          have HR := Aside0.mk hR
          have HE := Aside0.mk hE
          clear hR hE
          go_wp2_with (go_at_call 79; refine (text_c r a b c _ hrs HR.out).mono ?_)
          rintro e w3 ⟨rfl, hb3⟩
          have M3 := Aside0.mk (MID.out.below hb3)
          clear hb3
          have k0 := blk_cell M3.out.2.1 0
          have k1 := blk_cell M3.out.2.1 1
          have k2 := blk_cell M3.out.2.1 2
          have g2 := blk_frozen M3.out.2.1 2
          go_wp2_with fail
          go_meet
          have e := HM.out.symm.trans HE.out
          simp only [Prod.mk.injEq] at e
          obtain ⟨rfl, rfl, rfl, rfl⟩ := e
          exact ⟨rfl, rfl, M3.out.text _⟩
        · have d3 : (K == 3) = false := by simpa using c3
          by_cases c4 : K = 4
          · have d4 : (K == 4) = true := by rw [c4]; rfl
            have CC := Aside0.mk c4
            clear c4
            obtain ⟨a, b, c, hR, hE⟩ : ∃ a b c, textR r = .tuple #[.string a, .string b, .bool c] ∧ oneM k r = (0, a, b, c) := by
              have := HK.out
              have := CC.out
              unfold textR oneM
              rw [if_neg (by omega), if_neg (by omega), if_pos (by omega)]
              cases textP r.data.toList with
              | none => exact ⟨_, _, _, rfl, rfl⟩
              | some p => exact ⟨_, _, _, rfl, rfl⟩
            have HR := Aside0.mk hR
            have HE := Aside0.mk hE
            clear hR hE
            go_wp2_with (go_at_call 79; refine (text_c r a b c _ hrs HR.out).mono ?_)
            rintro e w3 ⟨rfl, hb3⟩
            have M3 := Aside0.mk (MID.out.below hb3)
            clear hb3
            have k0 := blk_cell M3.out.2.1 0
            have k1 := blk_cell M3.out.2.1 1
            have k2 := blk_cell M3.out.2.1 2
            have g2 := blk_frozen M3.out.2.1 2
            go_wp2_with fail
            go_meet
            have e := HM.out.symm.trans HE.out
            simp only [Prod.mk.injEq] at e
            obtain ⟨rfl, rfl, rfl, rfl⟩ := e
            exact ⟨rfl, rfl, M3.out.text _⟩
          · have d4 : (K == 4) = false := by simpa using c4
            have E : Aside0 (oneM k r = (0, ⟨#[]⟩, r, true)) := ⟨by
              have := HK.out
              unfold oneM
              rw [if_neg (by omega), if_neg (by omega), if_neg (by omega)]⟩
            go_wp2_with fail
            go_meet
            have e := HM.out.symm.trans E.out
            simp only [Prod.mk.injEq] at e
            obtain ⟨rfl, rfl, rfl, rfl⟩ := e
            exact ⟨rfl, rfl, MID.out⟩
  case rest =>
  obtain ⟨rfl, rfl, hmid⟩ := hcut
  have MID := Aside0.mk hmid
  have m0 := blk_cell MID.out.2.1 0
  have m1 := blk_cell MID.out.2.1 1
  have m2 := blk_cell MID.out.2.1 2
  have r0 := blk_cell MID.out.1 0
  have r1 := blk_cell MID.out.1 1
  have r2 := blk_cell MID.out.1 2
  have f0 := blk_frozen MID.out.1 0
  have f1 := blk_frozen MID.out.1 1
  have f2 := blk_frozen MID.out.1 2
  clear hmid
  cases is
  · go_wp2
    go_region
    have b3 := blk_drew (blk_put (blk_put (blk_put MID.out.1 0 (.int .i64 K) rfl) 1 (.int .i64 n) rfl) 2 (.string t) rfl)
    have hb : Below w.heap.size w (((wc.setCell ⟨w.heap.size, 0, none⟩ (.int .i64 K)).setCell ⟨w.heap.size, 1, none⟩ (.int .i64 n)).setCell ⟨w.heap.size, 2, none⟩ (.string t)).drew :=
      (((MID.out.2.2.setCell (p := ⟨w.heap.size, 0, none⟩) (Nat.le_refl _) _).setCell (p := ⟨w.heap.size, 1, none⟩) (Nat.le_refl _) _).setCell (p := ⟨w.heap.size, 2, none⟩) (Nat.le_refl _) _).drew
    have HB := Aside0.mk hb
    clear hb m0 m1 m2 r0 r1 r2 f0 f1 f2
    generalize (((wc.setCell ⟨w.heap.size, 0, none⟩ (.int .i64 K)).setCell ⟨w.heap.size, 1, none⟩ (.int .i64 n)).setCell ⟨w.heap.size, 2, none⟩ (.string t)).drew = W9 at b3 HB ⊢
    have q0 := (blk_cell b3 0).trans rfl
    have q1 := (blk_cell b3 1).trans rfl
    have q2 := (blk_cell b3 2).trans rfl
    clear b3
    go_wp2
    rw [HK.out]
    refine bodyPost_ret (v := .tuple #[.agg #[.int .i64 K, .int .i64 n, .string t], .string rest, .bool false]) (by simp [results, Tryd.results58, go_sem, q0, q1, q2]) rfl ⟨rfl, HB.out⟩
  · have HS : Aside0 (t.size ≤ 100000) := ⟨by have h := oneM_size k r hrs; rw [HM.out] at h; exact h⟩
    have MB : Aside0 (∃ b, mayB K n t = b) := ⟨_, rfl⟩
    obtain ⟨b, hb⟩ := MB.out
    have HMB := Aside0.mk hb
    have HKB : Aside0 ((true && mayB (k.toNat : Int) n t) = b) := ⟨by rw [HK.out, hb]; rfl⟩
    clear hb MB
    go_wp2
    go_region_with (go_at_call 31; refine (May3.vmay_calls K n t b _ (by have := HS.out; omega) (Tabs.below HT.out MID.out.drew.2.2) HMB.out).mono ?_; rintro e w5 ⟨rfl, hb5⟩; have M5 := Aside0.mk (MID.out.drew.below hb5); clear hb5; have r0' := blk_cell M5.out.1 0; have r1' := blk_cell M5.out.1 1; have r2' := blk_cell M5.out.1 2; have f0' := blk_frozen M5.out.1 0; have f1' := blk_frozen M5.out.1 1; have f2' := blk_frozen M5.out.1 2; have m0' := blk_cell M5.out.2.1 0; have m1' := blk_cell M5.out.2.1 1; have m2' := blk_cell M5.out.2.1 2)
    all_goals
      have b3 := blk_put (blk_put (blk_put M5.out.1 0 (.int .i64 K) rfl) 1 (.int .i64 n) rfl) 2 (.string t) rfl
      have hb : Below w.heap.size w (((w5.setCell ⟨w.heap.size, 0, none⟩ (.int .i64 K)).setCell ⟨w.heap.size, 1, none⟩ (.int .i64 n)).setCell ⟨w.heap.size, 2, none⟩ (.string t)) :=
        ((M5.out.2.2.setCell (p := ⟨w.heap.size, 0, none⟩) (Nat.le_refl _) _).setCell (p := ⟨w.heap.size, 1, none⟩) (Nat.le_refl _) _).setCell (p := ⟨w.heap.size, 2, none⟩) (Nat.le_refl _) _
      have HB := Aside0.mk hb
      clear hb m0 m1 m2 r0 r1 r2 f0 f1 f2 r0' r1' r2' f0' f1' f2' m0' m1' m2'
      generalize ((w5.setCell ⟨w.heap.size, 0, none⟩ (.int .i64 K)).setCell ⟨w.heap.size, 1, none⟩ (.int .i64 n)).setCell ⟨w.heap.size, 2, none⟩ (.string t) = W9 at b3 HB ⊢
      have q0 := (blk_cell b3 0).trans rfl
      have q1 := (blk_cell b3 1).trans rfl
      have q2 := (blk_cell b3 2).trans rfl
      clear b3
      go_wp2
      rw [HK.out]
      rw [show (true && mayB K n t) = b from HMB.out]
      refine bodyPost_ret (v := .tuple #[.agg #[.int .i64 K, .int .i64 n, .string t], .string rest, .bool b]) (by simp [results, Tryd.results58, go_sem, q0, q1, q2]) rfl ⟨rfl, HB.out⟩
end Go.Proofs.YtaddlkokencbkaaDoor.One
