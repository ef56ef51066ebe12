/- The walk of the law LayWrites with its answer: numbers' and texts' bytes are the document's, behind what there is. No condition. -/
import Derived.Test.YtaddlkokencbkaaFew
import Derived.Test.YtaddlkokencbkaaRefH
import Derived.Test.YtaddlkokencbkaaPlain
import Derived.Test.YtaddlkokencbkaaOpenN
import Derived.Test.YtaddlkokencbkaaRdT
import Derived.Deep.RegionWith
import Derived.Deep.DeepCutAuto
namespace Go.Proofs.Ytaddlkokencbkaa.RowLayWritesW
open Go.RowKit Go.Proofs.YtaddlkokencbkaaW.PrintWords Go.Proofs.YtaddlkokencbkaaW.PrintLast Go.Proofs.YtaddlkokencbkaaW.PrintMore Go.Proofs.Ytaddlkokencbkaa.Exact Go.Proofs.Ytaddlkokencbkaa.Few Go.Proofs.Ytaddlkokencbkaa.Lay Go.Proofs.Ytaddlkokencbkaa.Plain Go.Proofs.Ytaddlkokencbkaa.OpenN Go.Proofs.Ytaddlkokencbkaa.RdN
set_option linter.unusedVariables false
set_option linter.unusedSimpArgs false
theorem R_gives {w : World} {base : Nat} {v : Value} {l : List Int} (h : Kd.R (Kd.int .u8) 5 w base (fun _ => True) v l) : ∃ A c, v = .slice A l.length c ∧ l.length ≤ c ∧ Kd.C (Kd.int .u8) w A l.length l := Kd.R_reads h
theorem str_append (l m : List Int) : strOfNums l ++ strOfNums m = strOfNums (l ++ m) := by
  apply ByteArray.ext
  apply Array.ext'
  rw [ByteArray.data_append, Array.toList_append, strOfNums_data, strOfNums_data, strOfNums_data, List.map_append]
theorem str_size (l : List Int) : (strOfNums l).size = l.length := by
  show (strOfNums l).data.size = _
  rw [← Array.length_toList, strOfNums_data, List.length_map]
theorem lay_number (A0 : Option Addr) (c0 n0 : Nat) (l0 p : List Int) (a1 : Int) (w : World) (hn : l0.length = n0) (hr0 : Kd.C (Kd.int .u8) w A0 l0.length l0) (hc0 : l0.length ≤ c0) (hl : l0.length ≤ lim) (hp : l0 ++ digs a1.toNat = p) (h0 : 0 ≤ a1) (h1 : a1 ≤ 9223372036854775807) :
    Calls Try.prog 13 #[.slice A0 n0 c0, .int .i64 a1] w fun e w' => ∃ v, e = .returned v ∧ Kd.R (Kd.int .u8) 5 w' w.heap.size (fun _ => True) v p ∧ Below w.heap.size w w' := by
  subst hn hp
  have e : IntKind.u64.wrap a1 = a1 := by rw [IntKind.wrap_u64]; omega
  have := Lay.number_calls A0 c0 l0 a1 w hr0 hc0 hl
  rw [e] at this
  exact this
theorem lay_signed (A0 : Option Addr) (c0 n0 : Nat) (l0 p : List Int) (a1 : Int) (w : World) (hn : l0.length = n0) (hr0 : Kd.C (Kd.int .u8) w A0 l0.length l0) (hc0 : l0.length ≤ c0) (hl : l0.length ≤ lim) (hp : l0 ++ digs (Lib.zigzag a1) = p) (h1 : -9223372036854775808 ≤ a1) (h2 : a1 ≤ 9223372036854775807) :
    Calls Try.prog 17 #[.slice A0 n0 c0, .int .i64 a1] w fun e w' => ∃ v, e = .returned v ∧ Kd.R (Kd.int .u8) 5 w' w.heap.size (fun _ => True) v p ∧ Below w.heap.size w w' := by
  subst hn hp
  exact Lay.signed_calls A0 c0 l0 a1 w hr0 hc0 hl h1 h2
theorem lay_text (A0 : Option Addr) (c0 n0 : Nat) (l0 p : List Int) (a1 : ByteArray) (w : World) (hn : l0.length = n0) (hr0 : Kd.C (Kd.int .u8) w A0 l0.length l0) (hc0 : l0.length ≤ c0) (hl : l0.length + a1.size ≤ lim) (hp : l0 ++ (digs a1.size ++ bytesOf a1) = p) :
    Calls Try.prog 19 #[.slice A0 n0 c0, .string a1] w fun e w' => ∃ v, e = .returned v ∧ Kd.R (Kd.int .u8) 5 w' w.heap.size (fun _ => True) v p ∧ Below w.heap.size w w' := by
  rw [← List.append_assoc] at hp
  subst hn hp
  exact Lay.text_calls A0 c0 l0 a1 w hr0 hc0 hl
set_option maxHeartbeats 4000000 in
theorem walk (A : Option Addr) (c : Nat) (l0 : List Int) (n : Int) (s : ByteArray) (w : World) (hr : Kd.C (Kd.int .u8) w A l0.length l0) (hc : l0.length ≤ c) (h1 : -9223372036854775808 ≤ n) (h2 : n ≤ 9223372036854775807) (s2 : ByteArray) (m : Int)
    (hS : (200 < s.size ∧ s.extract 0 200 = s2) ∨ (s.size ≤ 200 ∧ s = s2)) (hs2 : s2.size ≤ 200)
    (hM : (n < 0 ∧ wrap64 (-(wrap64 (n + 1))) = m) ∨ (0 ≤ n ∧ n = m)) (hm : 0 ≤ m) (hm2 : m ≤ 9223372036854775807) :
    Calls Try.prog 4 #[.slice A l0.length c, .int .i64 n, .string s] w fun e w' => e = .returned (.bool true) ∧ Below w.heap.size w w' := by
  obtain ⟨l, hl⟩ : ∃ l, l0.take 100 = l := ⟨_, rfl⟩
  obtain ⟨nf, hnf⟩ : ∃ nf, l.length = nf := ⟨_, rfl⟩
  have hf : nf ≤ 100 := by rw [← hnf, ← hl, List.length_take]; omega
  have hfc : nf ≤ c := by rw [← hnf, ← hl, List.length_take]; omega
  have HF : Aside0 (Kd.C (Kd.int .u8) w A l.length l) := ⟨by
    have := Kd.C_take hr (m := min 100 l0.length) (by omega)
    rw [← List.take_eq_take_min, hl] at this
    exact this⟩
  have HFn : Aside0 (Kd.C (Kd.int .u8) w A nf l) := ⟨by have := HF.out; rw [hnf] at this; exact this⟩
  have HNF := Aside0.mk hnf
  have HTL : Aside0 ((l0.take 100).length = nf) := ⟨by rw [hl, hnf]⟩
  obtain ⟨d1, hd1⟩ : ∃ d, digs m.toNat = d := ⟨_, rfl⟩
  obtain ⟨d2, hd2⟩ : ∃ d, digs (Lib.zigzag n) = d := ⟨_, rfl⟩
  obtain ⟨d3, hd3⟩ : ∃ d, digs s2.size ++ bytesOf s2 = d := ⟨_, rfl⟩
  obtain ⟨p1, hp1⟩ : ∃ p, l ++ d1 = p := ⟨_, rfl⟩
  obtain ⟨p2, hp2⟩ : ∃ p, l ++ d2 = p := ⟨_, rfl⟩
  obtain ⟨p3, hp3⟩ : ∃ p, l ++ d3 = p := ⟨_, rfl⟩
  have P1 : Aside0 (l ++ digs m.toNat = p1) := ⟨by rw [hd1, hp1]⟩
  have P2 : Aside0 (l ++ digs (Lib.zigzag n) = p2) := ⟨by rw [hd2, hp2]⟩
  have P3 : Aside0 (l ++ (digs s2.size ++ bytesOf s2) = p3) := ⟨by rw [hd3, hp3]⟩
  have D1 := Aside0.mk hd1
  have D2 := Aside0.mk hd2
  have D3 := Aside0.mk hd3
  have a1 : strOfNums l ++ strOfNums d1 = strOfNums p1 := by rw [str_append, hp1]
  have a2 : strOfNums l ++ strOfNums d2 = strOfNums p2 := by rw [str_append, hp2]
  have a3 : strOfNums l ++ strOfNums d3 = strOfNums p3 := by rw [str_append, hp3]
  have s1 : ∀ W, (Op.stringOp .add (strOfNums l) (strOfNums d1)).run Try.prog W = .ok (.string (strOfNums p1)) W := fun W => by
    have h := digs_len10 (n := m.toNat) (by omega)
    have k := run_string_add_sum (P := Try.prog) (w := W) (strOfNums l) (strOfNums d1) (by rw [str_size, str_size, ← hd1]; omega)
    rw [a1] at k
    exact k
  have s2_ : ∀ W, (Op.stringOp .add (strOfNums l) (strOfNums d2)).run Try.prog W = .ok (.string (strOfNums p2)) W := fun W => by
    have h := digs_len10 (Lib.zigzag_lt h1 h2)
    have k := run_string_add_sum (P := Try.prog) (w := W) (strOfNums l) (strOfNums d2) (by rw [str_size, str_size, ← hd2]; omega)
    rw [a2] at k
    exact k
  have s3 : ∀ W, (Op.stringOp .add (strOfNums l) (strOfNums d3)).run Try.prog W = .ok (.string (strOfNums p3)) W := fun W => by
    have h := digs_len10 (n := s2.size) (by omega)
    have k := run_string_add_sum (P := Try.prog) (w := W) (strOfNums l) (strOfNums d3) (by rw [str_size, str_size, ← hd3, List.length_append, bytesOf_length]; omega)
    rw [a3] at k
    exact k
  clear a1 a2 a3
  have cee : ∀ y : List UInt8, (y == y) = true := by simp
  clear hl hnf hr hd1 hd2 hd3 hp1 hp2 hp3
  have cS : ((200 : Int) < (s.size : Int) ∧ 200 ≤ s.size ∧ s.extract 0 200 = s2) ∨ (¬ (200 : Int) < (s.size : Int) ∧ s2 = s) := by
    rcases hS with ⟨h, e⟩ | ⟨h, e⟩
    · exact .inl ⟨by omega, by omega, e⟩
    · exact .inr ⟨by omega, e.symm⟩
  have cM : (n < 0 ∧ -(n + 1) = m) ∨ (0 ≤ n ∧ n = m) := by
    rcases hM with ⟨h, e⟩ | ⟨h, e⟩
    · exact .inl ⟨h, by unfold wrap64 at e; omega⟩
    · exact .inr ⟨h, e⟩
  clear hS hM
  have CM := Aside0.mk cM
  have CS := Aside0.mk cS
  clear cM cS
  go_enter Try.func4, Try.ntmps4
  go_upto_if 16 with (first | (go_at_call 15; refine (few_calls2 _ A l0 c hc).mono ?_; rintro r wz ⟨rfl, rfl⟩; rw [HTL.out]))
  go_cut [2] (fun v2 wx => v2 = .string s2 ∧ w = wx)
  case first =>
    rcases CS.out with ⟨c1, csz, c2⟩ | ⟨c1, c2⟩
    · go_wp2_with fail
      go_meet
      exact ⟨rfl, rfl⟩
    · subst c2
      go_wp2_with fail
      go_meet
      exact ⟨rfl, rfl⟩
  case rest =>
  obtain ⟨rfl, rfl⟩ := hcut
  go_upto_if 21 with fail
  go_cut [7] (fun v7 wx => v7 = .int .i64 m ∧ w = wx)
  case first =>
    rcases CM.out with ⟨c3, c4⟩ | ⟨c3, c4⟩
    · have c5 : decide (n < 0) = true := decide_eq_true c3
      go_wp2_with fail
      go_meet
      exact ⟨rfl, rfl⟩
    · have c5 : decide (n < 0) = false := decide_eq_false (by omega)
      subst c4
      go_wp2_with fail
      go_meet
      exact ⟨rfl, rfl⟩
  case rest =>
  obtain ⟨rfl, rfl⟩ := hcut
  have hcs := conv_string HFn.out c
  go_upto_region 8 with fail
  clear hcs
  go_cut [9] (fun v9 wx => v9 = .bool true ∧ Below w.heap.size w wx)
  case first =>
    go_region_with (first | (go_at_call 13; refine (lay_number A c nf l p1 m w.drew HNF.out (Kd.C_drew HF.out) (by rw [HNF.out]; exact hfc) (by rw [HNF.out]; unfold lim; omega) P1.out hm hm2).mono ?_; rintro e w1 ⟨v, rfl, ho, hb⟩; obtain ⟨A1, k1, rfl, hk1, hC1⟩ := R_gives ho; have hcs1 := conv_string hC1 k1; have HC1 := Aside0.mk hC1; have HB1 := Aside0.mk (below_step (Below.drew (Below.refl w.heap.size w)) hb); clear ho hb hC1) | (go_at_call 16; refine (RefH.number_calls m w1 hm hm2).mono ?_; rintro e w2 ⟨v, rfl, ho, hb⟩; rw [D1.out] at ho; obtain ⟨A2, k2, rfl, hk2, hC2⟩ := R_gives ho; have hcs2 := conv_string hC2 k2; have hcs1' := conv_string (Kd.C_below HC1.out hb) k1; have HB2 := Aside0.mk (below_step HB1.out hb); clear ho hb hC2))
    all_goals (go_wp2_with fail; go_meet; exact ⟨rfl, HB2.out⟩)
  case rest =>
  obtain ⟨rfl, hb1⟩ := hcut
  rename_i wa
  have HBa := Aside0.mk hb1
  have HFa := Aside0.mk (Kd.C_below HF.out hb1)
  clear hb1
  go_upto_region 9 with fail
  go_cut [10] (fun v10 wx => v10 = .bool true ∧ Below w.heap.size w wx)
  case first =>
    go_region_with (first | (go_at_call 17; refine (lay_signed A c nf l p2 n _ HNF.out (Kd.C_drew HFa.out) (by rw [HNF.out]; exact hfc) (by rw [HNF.out]; unfold lim; omega) P2.out h1 h2).mono ?_; rintro e w1 ⟨v, rfl, ho, hb⟩; obtain ⟨A1, k1, rfl, hk1, hC1⟩ := R_gives ho; have hcs1 := conv_string hC1 k1; have HC1 := Aside0.mk hC1; have HB1 := Aside0.mk (below_step (Below.drew HBa.out) hb); clear ho hb hC1) | (go_at_call 18; refine (RefH.signed_calls n w1 h1 h2).mono ?_; rintro e w2 ⟨v, rfl, ho, hb⟩; rw [D2.out] at ho; obtain ⟨A2, k2, rfl, hk2, hC2⟩ := R_gives ho; have hcs2 := conv_string hC2 k2; have hcs1' := conv_string (Kd.C_below HC1.out hb) k1; have HB2 := Aside0.mk (below_step HB1.out hb); clear ho hb hC2))
    all_goals (go_wp2_with fail; go_meet; exact ⟨rfl, HB2.out⟩)
  case rest =>
  clear HBa HFa
  obtain ⟨rfl, hb1⟩ := hcut
  rename_i wb
  have HBa := Aside0.mk hb1
  have HFa := Aside0.mk (Kd.C_below HF.out hb1)
  clear hb1
  go_upto_region 10 with fail
  go_cut [11] (fun v11 wx => v11 = .bool true ∧ Below w.heap.size w wx)
  case first =>
    go_region_with (first | (go_at_call 19; refine (lay_text A c nf l p3 s2 _ HNF.out (Kd.C_drew HFa.out) (by rw [HNF.out]; exact hfc) (by rw [HNF.out]; unfold lim; omega) P3.out).mono ?_; rintro e w1 ⟨v, rfl, ho, hb⟩; obtain ⟨A1, k1, rfl, hk1, hC1⟩ := R_gives ho; have hcs1 := conv_string hC1 k1; have HC1 := Aside0.mk hC1; have HB1 := Aside0.mk (below_step (Below.drew HBa.out) hb); clear ho hb hC1) | (go_at_call 20; refine (RefH.text_calls s2 w1 (by omega)).mono ?_; rintro e w2 ⟨v, rfl, ho, hb⟩; rw [D3.out] at ho; obtain ⟨A2, k2, rfl, hk2, hC2⟩ := R_gives ho; have hcs2 := conv_string hC2 k2; have hcs1' := conv_string (Kd.C_below HC1.out hb) k1; have HB2 := Aside0.mk (below_step HB1.out hb); clear ho hb hC2))
    all_goals (go_wp2_with fail; go_meet; exact ⟨rfl, HB2.out⟩)
  case rest =>
  clear HBa HFa
  obtain ⟨rfl, hb1⟩ := hcut
  have HBa := Aside0.mk hb1
  have hcs := conv_string (Kd.C_below HFn.out hb1) c
  clear hb1
  go_wp2_with (first | (go_at_call 14; refine (lives_calls _).mono ?_; rintro r wl ⟨rfl, hb⟩; have HL2 := Aside0.mk (below_step HBa.out hb); clear hb))
  go_ret
  exact ⟨rfl, HL2.out⟩
theorem cut200 (s : ByteArray) : ∃ s2, ((200 < s.size ∧ s.extract 0 200 = s2) ∨ (s.size ≤ 200 ∧ s = s2)) ∧ s2.size ≤ 200 := by
  by_cases h : 200 < s.size
  · exact ⟨_, .inl ⟨h, rfl⟩, by rw [ByteArray.size_extract]; omega⟩
  · exact ⟨_, .inr ⟨by omega, rfl⟩, by omega⟩
theorem from0 {a : Int} (h : RangeI a) : ∃ m, ((a < 0 ∧ wrap64 (-(wrap64 (a + 1))) = m) ∨ (0 ≤ a ∧ a = m)) ∧ 0 ≤ m ∧ m ≤ 9223372036854775807 := by
  unfold RangeI at h
  by_cases c : a < 0
  · exact ⟨_, .inl ⟨c, rfl⟩, by unfold wrap64; omega, by unfold wrap64; omega⟩
  · exact ⟨_, .inr ⟨by omega, rfl⟩, by omega, by omega⟩
theorem law_calls (A : Option Addr) (c : Nat) (l : List Int) (n : Int) (s : ByteArray) (w : World) (hr : Kd.C (Kd.int .u8) w A l.length l) (hc : l.length ≤ c) (ok : ∀ y ∈ l, (Lit.int .u8 y).wf = true) (h : RangeI n) (hs : s.size ≤ 140737488351232) :
    Calls Try.prog 4 #[.slice A l.length c, .int .i64 n, .string s] w fun e w' => e = .returned (.bool true) ∧ Below w.heap.size w w' := by
  obtain ⟨s2, hS, h2⟩ := cut200 s
  obtain ⟨m, hM, hm, hm2⟩ := from0 h
  exact walk A c l n s w hr hc h.1 h.2 s2 m hS h2 hM hm hm2
end Go.Proofs.Ytaddlkokencbkaa.RowLayWritesW
