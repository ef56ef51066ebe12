/- The walk of the law ImageWrites with its answer: a row's, and its key's, bytes are the document's, behind others. No condition. -/
import Derived.Test.YtaddlkokencbkaaQ
import Derived.Test.YtaddlkokencbkaaRef5
import Derived.Test.YtaddlkokencbkaaGood
import Derived.Deep.RegionWith
import Derived.Deep.DeepCutAuto
namespace Go.Proofs.Ytaddlkokencbkaa.RowImageWritesW
open Go.RowKit Go.Proofs.YtaddlkokencbkaaW.PrintWords Go.Proofs.YtaddlkokencbkaaW.PrintLast Go.Proofs.YtaddlkokencbkaaW.PrintMore Go.Proofs.Ytaddlkokencbkaa.Q Go.Proofs.Ytaddlkokencbkaa.Plain Go.Proofs.Ytaddlkokencbkaa.Exact Go.Proofs.Ytaddlkokencbkaa.OpenA Go.Proofs.Ytaddlkokencbkaa.Img Go.Proofs.Ytaddlkokencbkaa.Put Go.Proofs.Ytaddlkokencbkaa.Ref5
set_option linter.unusedVariables false
set_option linter.unusedSimpArgs false
theorem few_calls2 (w : World) (A : Option Addr) (l : List Int) (c : Nat) (hc : l.length ≤ c) :
    Calls Try.prog 31 #[.slice A l.length c, .int .i64 20] w fun r w' => r = .returned (.slice A (l.take 20).length c) ∧ w = w' := by
  by_cases hl : 20 < l.length
  · have c1 : decide ((l.length : Int) > 20) = true := decide_eq_true (by omega)
    have E : Aside0 ((l.take 20).length = 20) := ⟨by rw [List.length_take]; omega⟩
    go_enter Try.func31, Try.ntmps31
    go_wp2
    go_ret
    exact ⟨by rw [E.out]; rfl, rfl⟩
  · have c1 : decide ((l.length : Int) > 20) = false := decide_eq_false (by omega)
    have E : Aside0 ((l.take 20).length = l.length) := ⟨by rw [List.length_take]; omega⟩
    go_enter Try.func31, Try.ntmps31
    go_wp2
    go_ret
    exact ⟨by rw [E.out]; rfl, rfl⟩
theorem conv_string {w : World} {A : Option Addr} {n : Nat} {xs : List Int} (h : Kd.C (Kd.int .u8) w A n xs) (c : Nat) : (convert 22 9 (.slice A n c)).run Try.prog w = .ok (.string (strOfNums xs)) w :=
  Kd.C_string Try.underlying22 Try.underlying5 Try.underlying9 h
theorem str_append (l m : List Int) : strOfNums l ++ strOfNums m = strOfNums (l ++ m) := by
  apply ByteArray.ext
  apply Array.ext'
  rw [ByteArray.data_append, Array.toList_append, strOfNums_data, strOfNums_data, strOfNums_data, List.map_append]
theorem str_size (l : List Int) : (strOfNums l).size = l.length := by
  show (strOfNums l).data.size = _
  rw [← Array.length_toList, strOfNums_data, List.length_map]
theorem R_gives {w : World} {base : Nat} {v : Value} {l : List Int} (h : Kd.R (Kd.int .u8) 5 w base (fun _ => True) v l) : ∃ A c, v = .slice A l.length c ∧ l.length ≤ c ∧ Kd.C (Kd.int .u8) w A l.length l := Kd.R_reads h
theorem iw (K : Nat) (A0 : Option Addr) (c0 n0 : Nat) (l0 : List Int) (A1 : Option Addr) (c1 : Nat) (l1 : List S67) (a : Int) (A2 : Option Addr) (c2 : Nat) (l2 : List S48) (r : List Int) (w : World) (hn : l0.length = n0) (hr0 : Kd.C (Kd.int .u8) w A0 l0.length l0) (hc0 : n0 ≤ c0) (hr1 : Kd.C k67 w A1 l1.length l1) (hc1 : l1.length ≤ c1) (hr2 : Kd.C k48 w A2 l2.length l2) (hc2 : l2.length ≤ c2) (h : image_Write.f K l0 l1 a l2 = some r) :
    Calls Try.prog 28 #[.slice A0 n0 c0, .agg #[.slice A1 l1.length c1, .int .i64 a], .slice A2 l2.length c2] w fun e w' => ∃ v : Value, e = .returned v ∧ Kd.R (Kd.int .u8) 5 w' w.heap.size (fun _ => True) v r ∧ Below w.heap.size w w' := by
  subst hn
  exact image_Write.calls K A0 c0 l0 A1 c1 l1 a A2 c2 l2 r w hr0 hc0 hr1 hc1 hr2 hc2 h
theorem ik (K : Nat) (A0 : Option Addr) (c0 n0 : Nat) (l0 : List Int) (A1 : Option Addr) (c1 : Nat) (l1 : List S67) (a : Int) (A2 : Option Addr) (c2 : Nat) (l2 : List S48) (r : List Int) (w : World) (hn : l0.length = n0) (hr0 : Kd.C (Kd.int .u8) w A0 l0.length l0) (hc0 : n0 ≤ c0) (hr1 : Kd.C k67 w A1 l1.length l1) (hc1 : l1.length ≤ c1) (hr2 : Kd.C k48 w A2 l2.length l2) (hc2 : l2.length ≤ c2) (h : image_WriteKey.f K l0 l1 a l2 = some r) :
    Calls Try.prog 33 #[.slice A0 n0 c0, .agg #[.slice A1 l1.length c1, .int .i64 a], .slice A2 l2.length c2] w fun e w' => ∃ v : Value, e = .returned v ∧ Kd.R (Kd.int .u8) 5 w' w.heap.size (fun _ => True) v r ∧ Below w.heap.size w w' := by
  subst hn
  exact image_WriteKey.calls K A0 c0 l0 A1 c1 l1 a A2 c2 l2 r w hr0 hc0 hr1 hc1 hr2 hc2 h
theorem r5 (K : Nat) (A2 : Option Addr) (c2 n2 : Nat) (l2 : List S48) (r : List Int) (w : World) (hn : l2.length = n2) (hr2 : Kd.C k48 w A2 l2.length l2) (hc2 : n2 ≤ c2) (h : pantographref05_Write.f K l2 = some r) :
    Calls Try.prog 32 #[.slice A2 n2 c2] w fun e w' => ∃ v : Value, e = .returned v ∧ Kd.R (Kd.int .u8) 5 w' w.heap.size (fun _ => True) v r ∧ Below w.heap.size w w' := by
  subst hn
  exact pantographref05_Write.calls K A2 c2 l2 r w hr2 hc2 h
set_option maxHeartbeats 4000000 in
theorem walk (K : Nat) (A : Option Addr) (c : Nat) (l : List S67) (k : Int) (A1 : Option Addr) (c1 : Nat) (l1 : List S48) (A2 : Option Addr) (c2 : Nat) (l2 : List Int) (w : World)
    (hr : Kd.C k67 w A l.length l) (hc : l.length ≤ c) (hr1 : Kd.C k48 w A1 l1.length l1) (hc1 : l1.length ≤ c1) (hr2 : Kd.C (Kd.int .u8) w A2 l2.length l2) (hc2 : l2.length ≤ c2)
    (cs : List S67) (n : Nat) (p : List S48) (e1 : pantographref04_Good.f K l k = some (cs, (n : Int))) (e2 : pantographref04_Row.f K cs (n : Int) l1 = some p) (hn : n ≤ p.length) (hp : p.length ≤ 6)
    (b : List Int) (hb : l2.take 20 = b) (e3 : image_Write.f K b cs (n : Int) p = some (b ++ rowB p)) (e4 : pantographref05_Write.f K p = some (rowB p))
    (e5 : image_WriteKey.f K b cs (n : Int) p = some (b ++ rowB (p.take n))) (e6 : pantographref05_Write.f K (p.take n) = some (rowB (p.take n))) (e7 : pantographlaw05_lives.f K = some true)
    (z1 : (rowB p).length ≤ 10000) (z2 : (rowB (p.take n)).length ≤ 10000) :
    Calls Try.prog 8 #[.agg #[.slice A l.length c, .int .i64 k], .slice A1 l1.length c1, .slice A2 l2.length c2] w fun e w' => e = .returned (.bool true) ∧ Below w.heap.size w w' := by
  have HR := Aside0.mk hr
  have HR1 := Aside0.mk hr1
  have HR2 := Aside0.mk hr2
  have E1 := Aside0.mk e1
  have E2 := Aside0.mk e2
  have E7 := Aside0.mk e7
  obtain ⟨nb, hnb⟩ : ∃ nb, b.length = nb := ⟨_, rfl⟩
  have HNB := Aside0.mk hnb
  have HTL : Aside0 ((l2.take 20).length = nb) := ⟨by rw [hb, hnb]⟩
  have hb20 : nb ≤ 20 := by rw [← hnb, ← hb, List.length_take]; omega
  obtain ⟨d1, hd1⟩ : ∃ d, rowB p = d := ⟨_, rfl⟩
  obtain ⟨d2, hd2⟩ : ∃ d, rowB (p.take n) = d := ⟨_, rfl⟩
  obtain ⟨p1, hp1⟩ : ∃ q, b ++ d1 = q := ⟨_, rfl⟩
  obtain ⟨p2, hp2⟩ : ∃ q, b ++ d2 = q := ⟨_, rfl⟩
  rw [hd1] at e3 e4 z1
  rw [hp1] at e3
  rw [hd2] at e5 e6 z2
  rw [hp2] at e5
  have E3 := Aside0.mk e3
  have E4 := Aside0.mk e4
  have E5 := Aside0.mk e5
  have E6 := Aside0.mk e6
  have s1 : ∀ W, (Op.stringOp .add (strOfNums b) (strOfNums d1)).run Try.prog W = .ok (.string (strOfNums p1)) W := fun W => by
    have k := run_string_add_sum (P := Try.prog) (w := W) (strOfNums b) (strOfNums d1) (by rw [str_size, str_size]; omega)
    rw [str_append, hp1] at k
    exact k
  have s2 : ∀ W, (Op.stringOp .add (strOfNums b) (strOfNums d2)).run Try.prog W = .ok (.string (strOfNums p2)) W := fun W => by
    have k := run_string_add_sum (P := Try.prog) (w := W) (strOfNums b) (strOfNums d2) (by rw [str_size, str_size]; omega)
    rw [str_append, hp2] at k
    exact k
  have cee : ∀ y : List UInt8, (y == y) = true := by simp
  have HLT : Aside0 ((p.take n).length = n) := ⟨by rw [List.length_take]; omega⟩
  have HTB : Aside0 (∀ W, Kd.C (Kd.int .u8) W A2 l2.length l2 → Kd.C (Kd.int .u8) W A2 b.length b) := ⟨fun W h => by
    have := Kd.C_take h (m := min 20 l2.length) (by omega)
    rw [← List.take_eq_take_min, hb] at this
    exact this⟩
  have hbc : nb ≤ c2 := by rw [← hnb, ← hb, List.length_take]; omega
  clear hd1 hd2 hp1 hp2
  clear hr hr1 hr2 e1 e2 e3 e4 e5 e6 e7
  go_enter Try.func8, Try.ntmps8
  go_upto_region 4 with (first | (go_at_call 26; refine (pantographref04_Good.calls K A c l k cs n _ ?hR hc E1.out).mono ?_; (case hR => exact Kd.C_alloc HR.out _); rintro e w1 ⟨v, rfl, ho, hbl⟩; obtain ⟨A3, c3, rfl, hc3, hC3⟩ := Kd.R_reads ho; have HC3 := Aside0.mk hC3; have HB1 := Aside0.mk hbl; clear ho hbl hC3) | (go_at_call 27; refine (pantographref04_Row.calls K A3 c3 cs n A1 c1 l1 p _ ?hR hc3 ?hR1 hc1 E2.out).mono ?_; (case hR => exact Kd.C_alloc HC3.out _); (case hR1 => exact Kd.C_alloc (Kd.C_below (Kd.C_alloc HR1.out _) HB1.out) _); rintro e w2 ⟨v, rfl, ho, hbl⟩; obtain ⟨A4, c4, rfl, hc4, hC4⟩ := Kd.R_reads ho; have HC4 := Aside0.mk hC4; have HC32 := Aside0.mk (Kd.C_below (Kd.C_alloc HC3.out _) hbl); have BK := Aside0.mk (blk_below (blk_new w1 _) hbl); have HB2 := Aside0.mk (below_step (below_alloc (below_step (below_alloc (Below.refl w.heap.size w) _) HB1.out) _) hbl); have kc0 := (blk_cell BK.out 0).trans rfl; have kc1 := (blk_cell BK.out 1).trans rfl; clear ho hbl hC4) | (go_at_call 31; refine (few_calls2 _ A2 l2 c2 hc2).mono ?_; rintro r wz ⟨rfl, rfl⟩; rw [HTL.out]))
  have HCB := Aside0.mk (HTB.out _ (Kd.C_below HR2.out HB2.out))
  have HCBn : Aside0 (Kd.C (Kd.int .u8) w2 A2 nb b) := ⟨by have h := HCB.out; rw [HNB.out] at h; exact h⟩
  go_cut [9] (fun v9 wx => v9 = .bool true ∧ Below w2.heap.size w2 wx)
  case first =>
    have hcb := conv_string (Kd.C_drew HCBn.out) c2
    go_region_with (first | (go_at_call 28; refine (iw K A2 c2 nb b A3 c3 cs n A4 c4 p p1 w2.drew HNB.out (Kd.C_drew HCB.out) hbc (Kd.C_drew HC32.out) hc3 (Kd.C_drew HC4.out) hc4 E3.out).mono ?_; rintro e w3 ⟨v, rfl, ho, hbl⟩; obtain ⟨A5, k5, rfl, hk5, hC5⟩ := R_gives ho; have hcs1 := conv_string hC5 k5; have hcb3 := conv_string (Kd.C_below (Kd.C_drew HCBn.out) hbl) c2; have HC5 := Aside0.mk hC5; have HB3 := Aside0.mk (below_step (Below.drew (Below.refl w2.heap.size w2)) hbl); clear ho hbl hC5) | (go_at_call 32; refine (r5 K A4 c4 p.length p d1 w3 rfl (Kd.C_below HC4.out HB3.out) hc4 E4.out).mono ?_; rintro e w4 ⟨v, rfl, ho, hbl⟩; obtain ⟨A6, k6, rfl, hk6, hC6⟩ := R_gives ho; have hcs2 := conv_string hC6 k6; have hcs1' := conv_string (Kd.C_below HC5.out hbl) k5; have hcb4 := conv_string (Kd.C_below HCBn.out (below_step HB3.out hbl)) c2; have HB4 := Aside0.mk (below_step HB3.out hbl); clear ho hbl hC6))
    all_goals (go_wp2_with fail; go_meet; exact ⟨rfl, HB4.out⟩)
  case rest =>
  obtain ⟨rfl, hb1⟩ := hcut

  have HBa := Aside0.mk hb1
  have BKa := Aside0.mk (blk_below BK.out hb1)
  have HC3a := Aside0.mk (Kd.C_below HC32.out hb1)
  have HC4a := Aside0.mk (Kd.C_below HC4.out hb1)
  have HCBa := Aside0.mk (Kd.C_below HCB.out hb1)
  have HCBna := Aside0.mk (Kd.C_below HCBn.out hb1)
  have ka0 := (blk_cell BKa.out 0).trans rfl
  have ka1 := (blk_cell BKa.out 1).trans rfl
  have hnc : n ≤ c4 := by omega
  clear hb1 kc0 kc1
  go_upto_region 5 with fail
  go_cut [10] (fun v10 wx => v10 = .bool true ∧ Below w2.heap.size w2 wx)
  case first =>
    have hcb := conv_string (Kd.C_drew HCBna.out) c2
    go_region_with (first | (go_at_call 33; refine (ik K A2 c2 nb b A3 c3 cs n A4 c4 p p2 wc.drew HNB.out (Kd.C_drew HCBa.out) hbc (Kd.C_drew HC3a.out) hc3 (Kd.C_drew HC4a.out) hc4 E5.out).mono ?_; rintro e w3 ⟨v, rfl, ho, hbl⟩; obtain ⟨A5, k5, rfl, hk5, hC5⟩ := R_gives ho; have hcs1 := conv_string hC5 k5; have hcb3 := conv_string (Kd.C_below (Kd.C_drew HCBna.out) hbl) c2; have kb1 := (blk_cell (blk_below (blk_drew BKa.out) hbl) 1).trans rfl; have HC5 := Aside0.mk hC5; have HC43 := Aside0.mk (Kd.C_below (Kd.C_drew HC4a.out) hbl); have HB3 := Aside0.mk (below_step (Below.drew HBa.out) hbl); clear ho hbl hC5) | (go_at_call 32; refine (r5 K A4 c4 n (p.take n) d2 w3 HLT.out (Kd.C_take HC43.out hn) hnc E6.out).mono ?_; rintro e w4 ⟨v, rfl, ho, hbl⟩; obtain ⟨A6, k6, rfl, hk6, hC6⟩ := R_gives ho; have hcs2 := conv_string hC6 k6; have hcs1' := conv_string (Kd.C_below HC5.out hbl) k5; have hcb4 := conv_string (Kd.C_below HCBn.out (below_step HB3.out hbl)) c2; have HB4 := Aside0.mk (below_step HB3.out hbl); clear ho hbl hC6))
    all_goals (go_wp2_with fail; go_meet; exact ⟨rfl, HB4.out⟩)
  case rest =>
  clear HBa BKa HC3a HC4a HCBa HCBna ka0 ka1
  obtain ⟨rfl, hb1⟩ := hcut
  have HBb := Aside0.mk (below_step HB2.out hb1)
  clear hb1
  go_wp2_with (first | (go_at_call 30; refine (pantographlaw05_lives.calls K true _ E7.out).mono ?_; rintro r wl ⟨rfl, hb⟩; have HL2 := Aside0.mk (below_step HBb.out hb); clear hb))
  go_ret
  exact ⟨rfl, HL2.out⟩
theorem law_calls (A : Option Addr) (c : Nat) (l : List S67) (k : Int) (A1 : Option Addr) (c1 : Nat) (l1 : List S48) (A2 : Option Addr) (c2 : Nat) (l2 : List Int) (w : World) (hr : Kd.C k67 w A l.length l) (hc : l.length ≤ c) (ok : ∀ y ∈ l, OkC y) (rk : RangeI k)
    (hr1 : Kd.C k48 w A1 l1.length l1) (hc1 : l1.length ≤ c1) (ok1 : ∀ y ∈ l1, OkV y) (hr2 : Kd.C (Kd.int .u8) w A2 l2.length l2) (hc2 : l2.length ≤ c2) (ok2 : ∀ y ∈ l2, (Lit.int .u8 y).wf = true) :
    Calls Try.prog 8 #[.agg #[.slice A l.length c, .int .i64 k], .slice A1 l1.length c1, .slice A2 l2.length c2] w fun e w' => e = .returned (.bool true) ∧ Below w.heap.size w w' := by
  obtain ⟨cs, keys, ⟨K1, h1⟩, hg⟩ := good_f l ok hr.2.1 k rk
  have hfew := hg.few
  have hsome := hg.some_
  have hk1 := hg.k1
  have hkn := hg.kn
  obtain ⟨n, rfl⟩ := Int.eq_ofNat_of_zero_le (show 0 ≤ keys by omega)
  obtain ⟨K2, h2⟩ := row_f cs (n : Int) l1 (by omega)
  have p1 := rowOf_length cs l1 cs.length
  have s1 := rowOf_small hg ok1
  generalize rowOf cs l1 cs.length = p at *
  obtain ⟨b, hb⟩ : ∃ b, l2.take 20 = b := ⟨_, rfl⟩
  have hbl : b.length ≤ 20 := by rw [← hb, List.length_take]; omega
  have sn : ∀ v ∈ p.take n, SmallV v := fun v hv => s1 v (List.mem_of_mem_take hv)
  have ln : (p.take n).length = n := by rw [List.length_take]; omega
  obtain ⟨K3, h3⟩ := write_f p s1 (by omega) (by omega) b (by omega) cs (n : Int)
  obtain ⟨K4, h4⟩ := w5_f p s1 (by omega) (by omega)
  obtain ⟨K5, h5⟩ := writeKey_f cs n p (by omega) (by omega) (by omega) s1 b (by omega)
  obtain ⟨K6, h6⟩ := w5_f (p.take n) sn (by omega) (by omega)
  obtain ⟨K7, h7⟩ := lives_f
  have z1 := valsTo_len p s1 p.length (Nat.le_refl _)
  have z2 := valsTo_len (p.take n) sn (p.take n).length (Nat.le_refl _)
  exact walk (K1 + K2 + K3 + K4 + K5 + K6 + K7) A c l k A1 c1 l1 A2 c2 l2 w hr hc hr1 hc1 hr2 hc2 cs n p (h1 _ (by omega)) (h2 _ (by omega)) (by omega) (by omega) b hb (h3 _ (by omega)) (h4 _ (by omega)) (h5 _ (by omega)) (h6 _ (by omega)) (h7 _ (by omega))
    (by unfold rowB; rw [List.length_cons]; omega) (by unfold rowB; rw [List.length_cons]; omega)
end Go.Proofs.Ytaddlkokencbkaa.RowImageWritesW
