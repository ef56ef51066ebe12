/- The walk of the law LayShort with its answer: what is cut short is told so. No condition. -/
import Derived.Test.YtaddlkokencbkaaFew
import Derived.Test.YtaddlkokencbkaaRdP
import Derived.Test.YtaddlkokencbkaaPlain
import Derived.Test.YtaddlkokencbkaaOpenN
namespace Go.Proofs.Ytaddlkokencbkaa.RowLayShortW
open Go.RowKit Go.Proofs.YtaddlkokencbkaaW.PrintWords Go.Proofs.YtaddlkokencbkaaW.PrintLast Go.Proofs.YtaddlkokencbkaaW.PrintMore Go.Proofs.Ytaddlkokencbkaa.Exact Go.Proofs.Ytaddlkokencbkaa.Rd Go.Proofs.Ytaddlkokencbkaa.RdN Go.Proofs.Ytaddlkokencbkaa.Few Go.Proofs.Ytaddlkokencbkaa.Lay Go.Proofs.Ytaddlkokencbkaa.Plain Go.Proofs.Ytaddlkokencbkaa.OpenN
set_option linter.unusedVariables false
set_option linter.unusedSimpArgs false
theorem read_calls2 (w : World) (A : Option Addr) (l : List Int) (c n : Nat) (hn : l.length = n) (h : Kd.C (Kd.int .u8) w A l.length l) (hc : l.length ≤ c) :
    Calls Try.prog 21 #[.slice A n c] w fun r w' => ∃ g, r = .returned (.pointer (some ⟨g, 0, none⟩)) ∧ w.heap.size ≤ g ∧ Rd w' g A l c 0 ∧ Below w.heap.size w w' := by
  subst hn
  exact read_calls w A l c h hc
theorem R_gives {w : World} {base : Nat} {v : Value} {l : List Int} (h : Kd.R (Kd.int .u8) 5 w base (fun _ => True) v l) (n : Nat) (hn : l.length = n) : ∃ A c, v = .slice A n c ∧ n ≤ c ∧ Kd.C (Kd.int .u8) w A l.length l := by
  subst hn
  exact Kd.R_reads h
theorem str_nil : strOfNums [] = (⟨#[]⟩ : ByteArray) := rfl
set_option maxHeartbeats 2000000 in
theorem walk (n : Int) (s : ByteArray) (cut : Int) (w : World) (h1 : -9223372036854775808 ≤ n) (h2 : n ≤ 9223372036854775807) (s2 : ByteArray) (m : Int)
    (hS : (200 < s.size ∧ s.extract 0 200 = s2) ∨ (s.size ≤ 200 ∧ s = s2)) (hs2 : s2.size ≤ 200)
    (hM : (cut < 0 ∧ wrap64 (-(wrap64 (cut + 1))) = m) ∨ (0 ≤ cut ∧ cut = m)) (hm : 0 ≤ m) :
    Calls Try.prog 11 #[.int .i64 n, .string s, .int .i64 cut] w fun e w' => e = .returned (.bool true) ∧ Below w.heap.size w w' := by
  obtain ⟨b, hb⟩ : ∃ b, digs (Lib.zigzag n) = b := ⟨_, rfl⟩
  obtain ⟨nb, hnb⟩ : ∃ nb, b.length = nb := ⟨_, rfl⟩
  obtain ⟨t, ht⟩ : ∃ t, digs s2.size ++ bytesOf s2 = t := ⟨_, rfl⟩
  obtain ⟨nt, hnt⟩ : ∃ nt, t.length = nt := ⟨_, rfl⟩
  have hbp : 0 < nb := by rw [← hnb, ← hb]; exact digs_pos _
  have htp : 0 < nt := by rw [← hnt, ← ht, List.length_append]; have := digs_pos s2.size; omega
  obtain ⟨jb, hjb⟩ : ∃ j : Nat, Int.tmod m (nb : Int) = (j : Int) := ⟨(Int.tmod m nb).toNat, by have := Int.tmod_nonneg (nb : Int) hm; omega⟩
  obtain ⟨jt, hjt⟩ : ∃ j : Nat, Int.tmod m (nt : Int) = (j : Int) := ⟨(Int.tmod m nt).toNat, by have := Int.tmod_nonneg (nt : Int) hm; omega⟩
  have ljb : jb < nb := by have := Int.tmod_lt_of_pos m (b := (nb : Int)) (by omega); omega
  have ljt : jt < nt := by have := Int.tmod_lt_of_pos m (b := (nt : Int)) (by omega); omega
  have hz := Lib.zigzag_lt h1 h2
  have Eb : Aside0 (rdD (b.take jb) 0 = (0, b.take jb, 4)) := ⟨by subst hb; exact rdD_cut hz (by omega)⟩
  have Et : Aside0 (rdT 200 (t.take jt) 0 = ([], t.take jt, 4)) := ⟨by
    subst ht
    have hl := bytesOf_length s2
    have := rdT_cut (s := bytesOf s2) (most := 200) (by omega) (by omega) (j := jt) (by rw [hl]; omega)
    rw [hl] at this
    exact this⟩
  have Kb : Aside0 (∀ x ∈ b.take jb, 0 ≤ x ∧ x < 256) := ⟨fun x hx => by subst hb; exact digs_bytes _ x (List.mem_of_mem_take hx)⟩
  have Kt : Aside0 (∀ x ∈ t.take jt, 0 ≤ x ∧ x < 256) := ⟨fun x hx => by
    subst ht
    rcases List.mem_append.1 (List.mem_of_mem_take hx) with h | h
    · exact digs_bytes _ x h
    · exact bytesOf_bytes _ x h⟩
  have Lb : Aside0 ((b.take jb).length = jb) := ⟨by rw [List.length_take]; omega⟩
  have Lt : Aside0 ((t.take jt).length = jt) := ⟨by rw [List.length_take]; omega⟩
  have Hb := Aside0.mk hb
  have Ht := Aside0.mk ht
  have Hnb := Aside0.mk hnb
  have Hnt := Aside0.mk hnt
  have cb : ((nb : Int) == 0) = false := beq_eq_false_iff_ne.2 (by omega)
  have ct : ((nt : Int) == 0) = false := beq_eq_false_iff_ne.2 (by omega)
  clear hb ht hnb hnt
  have cS : (decide ((s.size : Int) > 200) = true ∧ 200 ≤ s.size ∧ s.extract 0 200 = s2) ∨ (decide ((s.size : Int) > 200) = false ∧ s = s2) := by
    rcases hS with ⟨h, e⟩ | ⟨h, e⟩
    · exact .inl ⟨decide_eq_true (by omega), by omega, e⟩
    · exact .inr ⟨decide_eq_false (by omega), e⟩
  have cM : (decide (cut < 0) = true ∧ wrap64 (-(wrap64 (cut + 1))) = m) ∨ (decide (cut < 0) = false ∧ cut = m) := by
    rcases hM with ⟨h, e⟩ | ⟨h, e⟩
    · exact .inl ⟨decide_eq_true h, e⟩
    · exact .inr ⟨decide_eq_false (by omega), e⟩
  clear hS hM
  rcases cS with ⟨c1, csz, c2⟩ | ⟨c1, rfl⟩ <;> rcases cM with ⟨c3, c4⟩ | ⟨c3, rfl⟩
  all_goals
    go_enter Try.func11, Try.ntmps11
    go_wp2_with (first | (go_at_call 17; refine (signed_calls none 0 [] n _ (Kd.C_nil _ _) (by simp) (by simp) h1 h2).mono ?_; rintro e w1 ⟨v, rfl, ho, hb⟩; rw [List.nil_append, Hb.out] at ho; obtain ⟨A1, k1, rfl, hk1, hC1⟩ := R_gives ho nb Hnb.out; have HC1 := Aside0.mk hC1; have HB1 := Aside0.mk hb; clear ho hb hC1) | (go_at_call 19; refine (text_calls none 0 [] _ w1 (Kd.C_nil _ _) (by simp) (by unfold lim; simp; omega)).mono ?_; rintro e w2 ⟨v, rfl, ho, hb⟩; rw [List.nil_append, Ht.out] at ho; obtain ⟨A2, k2, rfl, hk2, hC2⟩ := R_gives ho nt Hnt.out; have HC2 := Aside0.mk hC2; have HC12 := Aside0.mk (Kd.C_below HC1.out hb); have HB2 := Aside0.mk (below_step HB1.out hb); clear ho hb hC2) | (go_at_call 21; first | (refine (read_calls2 w2 A1 (b.take jb) k1 jb Lb.out (Kd.C_take HC12.out (by rw [Hnb.out]; omega)) (by rw [Lb.out]; omega)).mono ?_; rintro e w3 ⟨g1, rfl, hg1, hr, hb⟩; have RD1 := Aside0.mk hr; have HC23 := Aside0.mk (Kd.C_below HC2.out hb); have HB3 := Aside0.mk (below_step HB2.out hb); have HG1 : Aside0 (w.heap.size ≤ g1) := ⟨by have := below_size HB2.out; omega⟩; clear hr hb hg1) | (refine (read_calls2 w3 A2 (t.take jt) k2 jt Lt.out (Kd.C_take HC23.out (by rw [Hnt.out]; omega)) (by rw [Lt.out]; omega)).mono ?_; rintro e w4 ⟨g2, rfl, hg2, hr, hb⟩; have RD2 := Aside0.mk hr; have RD14 := Aside0.mk (RD1.out.below hb); have HNG : Aside0 (g2 ≠ g1) := ⟨by have := RD1.out.lt; omega⟩; have HB4 := Aside0.mk (below_step HB3.out hb); have HG2 : Aside0 (w.heap.size ≤ g2) := ⟨by have := below_size HB3.out; omega⟩; clear hr hb hg2)) | (go_at_call 35; refine (RdN.signed_calls w4 g1 A1 _ k1 0 RD14.out Kb.out).mono ?_; rintro e w5 ⟨A', k', rfl, hr, ho⟩; rw [Eb.out] at hr; rw [Eb.out]; have RD15 := Aside0.mk hr; have RD25 := Aside0.mk (RD2.out.off RD14.out HNG.out ho); have HB5 := Aside0.mk (Off.below HB4.out ho HG1.out); clear hr ho) | (go_at_call 24; first | (refine (errno_calls w6 g2 _ _ _ 4 RD26.out).mono ?_; rintro e wz ⟨rfl, rfl⟩) | (refine (errno_calls w5 g1 _ _ _ 4 RD15.out).mono ?_; rintro e wz ⟨rfl, rfl⟩)) | (go_at_call 36; refine (RdN.text_calls w5 g2 A2 _ k2 0 200 RD25.out Kt.out).mono ?_; rintro e w6 ⟨A'', k'', rfl, hr, ho⟩; rw [Et.out] at hr; rw [Et.out]; rw [str_nil]; have RD26 := Aside0.mk hr; have HB6 := Aside0.mk (Off.below HB5.out ho HG2.out); clear hr ho) | (go_at_call 23; refine (byte_calls w6 g2 _ _ _ 4 RD26.out Kt.out).mono ?_; rintro e w7 ⟨A3, k3, rfl, hr, ho⟩; rw [byteV_err (by decide)]; have HB7 := Aside0.mk (Off.below HB6.out ho HG2.out); clear hr ho) | (go_at_call 14; refine (lives_calls w7).mono ?_; rintro e w8 ⟨rfl, hb⟩; have HB8 := Aside0.mk (below_step HB7.out hb); clear hb))
    go_ret
    exact ⟨rfl, HB8.out⟩
theorem cut200 (s : ByteArray) : ∃ s2, ((200 < s.size ∧ s.extract 0 200 = s2) ∨ (s.size ≤ 200 ∧ s = s2)) ∧ s2.size ≤ 200 := by
  by_cases h : 200 < s.size
  · exact ⟨_, .inl ⟨h, rfl⟩, by rw [ByteArray.size_extract]; omega⟩
  · exact ⟨_, .inr ⟨by omega, rfl⟩, by omega⟩
theorem from0 {a : Int} (h : RangeI a) : ∃ m, ((a < 0 ∧ wrap64 (-(wrap64 (a + 1))) = m) ∨ (0 ≤ a ∧ a = m)) ∧ 0 ≤ m := by
  unfold RangeI at h
  by_cases c : a < 0
  · exact ⟨_, .inl ⟨c, rfl⟩, by unfold wrap64; omega⟩
  · exact ⟨_, .inr ⟨by omega, rfl⟩, by omega⟩
theorem law_calls (n : Int) (s : ByteArray) (cut : Int) (w : World) (h : RangeI n) (hs : s.size ≤ 140737488351232) (hc : RangeI cut) :
    Calls Try.prog 11 #[.int .i64 n, .string s, .int .i64 cut] w fun e w' => e = .returned (.bool true) ∧ Below w.heap.size w w' := by
  obtain ⟨s2, hS, h2⟩ := cut200 s
  obtain ⟨m, hM, hm⟩ := from0 hc
  exact walk n s cut w h.1 h.2 s2 m hS h2 hM hm
end Go.Proofs.Ytaddlkokencbkaa.RowLayShortW
