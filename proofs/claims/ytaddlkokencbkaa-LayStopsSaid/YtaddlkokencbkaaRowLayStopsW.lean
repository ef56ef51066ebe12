/- The walk of the law LayStops with its answer: behind an error nothing is told any more, whatever is asked. No condition. -/
import Derived.Test.YtaddlkokencbkaaFew
import Derived.Test.YtaddlkokencbkaaRdP
import Derived.Test.YtaddlkokencbkaaOpenN
import Derived.Test.YtaddlkokencbkaaWRepsOne
namespace Go.Proofs.Ytaddlkokencbkaa.RowLayStopsW
open Go.RowKit Go.Proofs.YtaddlkokencbkaaW.PrintWords Go.Proofs.YtaddlkokencbkaaW.PrintLast Go.Proofs.YtaddlkokencbkaaW.PrintMore Go.Proofs.Ytaddlkokencbkaa.Exact Go.Proofs.Ytaddlkokencbkaa.Rd Go.Proofs.Ytaddlkokencbkaa.RdN Go.Proofs.Ytaddlkokencbkaa.Few Go.Proofs.Ytaddlkokencbkaa.Lay Go.Proofs.Ytaddlkokencbkaa.OpenN
set_option linter.unusedVariables false
set_option linter.unusedSimpArgs false
theorem str_nil : strOfNums [] = (⟨#[]⟩ : ByteArray) := rfl
theorem read_calls2 (w : World) (A : Option Addr) (l : List Int) (c n : Nat) (hn : l.length = n) (h : Kd.C (Kd.int .u8) w A l.length l) (hc : l.length ≤ c) :
    Calls Try.prog 21 #[.slice A n c] w fun r w' => ∃ g, r = .returned (.pointer (some ⟨g, 0, none⟩)) ∧ w.heap.size ≤ g ∧ Rd w' g A l c 0 ∧ Below w.heap.size w w' := by
  subst hn
  exact read_calls w A l c h hc
theorem R_gives {w : World} {base : Nat} {v : Value} {l : List Int} (h : Kd.R (Kd.int .u8) 5 w base (fun _ => True) v l) (n : Nat) (hn : l.length = n) : ∃ A c, v = .slice A n c ∧ n ≤ c ∧ Kd.C (Kd.int .u8) w A l.length l := by
  subst hn
  exact Kd.R_reads h
def RelS (w : World) (g : Nat) (L : List Int) (n : Nat) (v8 : Value) (wr : World) : Prop :=
  ∃ (i : Nat) (A' : Option Addr) (c' : Nat), v8 = .int .i64 (i : Int) ∧ i ≤ n ∧ Rd wr g A' L c' 2 ∧ Below w.heap.size w wr
set_option maxHeartbeats 2000000 in
theorem walk (A : Option Addr) (c : Nat) (l0 : List Int) (A1 : Option Addr) (c1 n1 : Nat) (most : Int) (w : World) (hr : Kd.C (Kd.int .u8) w A l0.length l0) (hc : l0.length ≤ c) (ok0 : ∀ y ∈ l0, 0 ≤ y ∧ y < 256) (hn1 : n1 ≤ 9223372036854775807) :
    Calls Try.prog 12 #[.slice A l0.length c, .slice A1 n1 c1, .int .i64 most] w fun e w' => e = .returned (.bool true) ∧ Below w.heap.size w w' := by
  obtain ⟨l, hl⟩ : ∃ l, l0.take 100 = l := ⟨_, rfl⟩
  obtain ⟨nf, hnf⟩ : ∃ nf, l.length = nf := ⟨_, rfl⟩
  obtain ⟨L, hL⟩ : ∃ L, [128, 0] ++ l = L := ⟨_, rfl⟩
  have hf : nf ≤ 100 := by rw [← hnf, ← hl, List.length_take]; omega
  have HF : Aside0 (∀ W, Kd.C (Kd.int .u8) W A l0.length l0 → Kd.C (Kd.int .u8) W A l.length l) := ⟨fun W h => by
    have := Kd.C_take h (m := min 100 l0.length) (by omega)
    rw [← List.take_eq_take_min, hl] at this
    exact this⟩
  have LL : Aside0 (L.length = nf + 2) := ⟨by rw [← hL, List.length_append, hnf]; simp; omega⟩
  have EL : Aside0 (rdN L 0 = (0, L, 2)) := ⟨by rw [← hL]; exact rdN_bad l⟩
  have KL : Aside0 (∀ y ∈ L, 0 ≤ y ∧ y < 256) := ⟨fun y hy => by
    rw [← hL] at hy
    rcases List.mem_append.1 hy with h | h
    · simp at h; omega
    · exact ok0 y (List.mem_of_mem_take (hl ▸ h))⟩
  have HNF := Aside0.mk hnf
  have HTL : Aside0 ((l0.take 100).length = nf) := ⟨by rw [hl, hnf]⟩
  have HL := Aside0.mk hL
  have HR := Aside0.mk hr
  have e2 : (2 : Int) ≠ 0 := by decide
  have E2 := Aside0.mk e2
  have cxx : ∀ y : Int, (y != y) = false := by simp
  clear hl hnf hL hr ok0 e2
  go_enter Try.func12, Try.ntmps12
  go_wp2_with (first | ((with_reducible refine gate_dst (N := 9) rfl ?_); refine Kd.R_lit (Kd.int .u8) (w0 := w) w.heap.size 5 ?hg (N := 9) ?hd (xs := ([128, 0] : List Int)) (inner := [.int .u8 128, .int .u8 0]) (ok := fun _ => True) (okp := fun _ => True) ?hr ?hp (fun _ hk => hk) trivial (Below.refl _ _) (Nat.le_refl _) (by simp) ?_; (case hd => rfl); (case hg => rfl); (case hr => first | (go_simp; done) | (go_simp; rfl)); (case hp => exact (Reps.one (show Kd.M (Kd.int .u8) _ _ _ 128 [.int .u8 128] from rfl) (Reps.one (show Kd.M (Kd.int .u8) _ _ _ 0 [.int .u8 0] from rfl) (Reps.none _ _)))); intro v9 w1 ho hb hg_ hnew_; have HO := Aside0.mk ho; have HB1 := Aside0.mk hb; have HC1 := Aside0.mk (Kd.C_below HR.out hb); clear ho hb hg_ hnew_) | (go_at_call 15; refine (few_calls2 _ A l0 c hc).mono ?_; rintro r wz ⟨rfl, rfl⟩; rw [HTL.out]) | (at_builtin; refine R_append_row (w0 := w) w.heap.size rfl (.tmp 9) (.tmp 11) 22 5 .u8 1 rfl Try.underlying22 Lay.info5 (by decide) v9 [128, 0] l A nf c rfl rfl ?aO ?aR ?aB ?aS ?aL ?_; (case aO => exact HO.out); (case aR => have h := HF.out _ HC1.out; rw [HNF.out] at h; exact h); (case aB => exact HB1.out); (case aS => exact HB1.out.size); (case aL => simp; omega); intro v12 w2 ho hb hg; rw [HL.out] at ho; obtain ⟨A2, k2, rfl, hk2, hC2⟩ := R_gives ho (nf + 2) LL.out; have HC2 := Aside0.mk hC2; have HB2 := Aside0.mk hb; clear ho hb hg hC2) | (go_at_call 21; refine (read_calls2 _ A2 L k2 (nf + 2) LL.out HC2.out (by rw [LL.out]; exact hk2)).mono ?_; rintro r w3 ⟨g, rfl, hg, hr, hb⟩; have RD := Aside0.mk hr; have HB3 := Aside0.mk (below_step HB2.out hb); have HG : Aside0 (w.heap.size ≤ g) := ⟨by have := below_size HB2.out; omega⟩; clear hr hb hg) | (go_at_call 37; refine (RdN.number_calls _ g A2 L k2 0 RD.out KL.out).mono ?_; rintro r w4 ⟨A4, k4, rfl, hr, ho⟩; rw [EL.out] at hr; rw [EL.out]; have RD4 := Aside0.mk hr; have HB4 := Aside0.mk (Off.below HB3.out ho HG.out); clear hr ho) | (go_at_call 24; refine (errno_calls _ g A4 L k4 2 RD4.out).mono ?_; rintro r wz ⟨rfl, rfl⟩))
  go_loopw [8] (fun v8 wr => RelS w g L n1 v8 wr) (fun v8 _ => (n1 - intOf v8).toNat)
  case atStart => exact ⟨0, _, _, rfl, by omega, RD4.out, HB4.out⟩
  case round =>
    clear RD4 HB4 HB3 HB2 HB1 HC1 HC2 RD HO hk2
    obtain ⟨i, A', c', rfl, hi, hrd, hb⟩ := hrel
    have RD := Aside0.mk hrd
    have HB := Aside0.mk hb
    clear hrd hb
    by_cases hil : i < n1 ∧ i < 20
    · have d1 : decide ((i : Int) < (n1 : Int)) = true := decide_eq_true (by omega)
      have d2 : decide ((i : Int) < 20) = true := decide_eq_true (by omega)
      go_wp2_with (first | (go_at_call 37; refine (RdN.number_calls _ g A' L c' 2 RD.out KL.out).mono ?_; rintro r wa ⟨Aa, ka, rfl, hr, ho⟩; rw [rdN_err E2.out] at hr; rw [rdN_err E2.out]; have RDa := Aside0.mk hr; have HBa := Aside0.mk (Off.below HB.out ho HG.out); clear hr ho) | (go_at_call 35; refine (RdN.signed_calls _ g Aa L ka 2 RDa.out KL.out).mono ?_; rintro r wb ⟨Ab, kb, rfl, hr, ho⟩; rw [rdD_err E2.out] at hr; rw [rdD_err E2.out]; have RDb := Aside0.mk hr; have HBb := Aside0.mk (Off.below HBa.out ho HG.out); clear hr ho) | (go_at_call 23; refine (byte_calls _ g Ab L kb 2 RDb.out KL.out).mono ?_; rintro r wc ⟨Ac, kc, rfl, hr, ho⟩; rw [byteL_err E2.out, byteE_err E2.out] at hr; rw [byteV_err E2.out]; have RDc := Aside0.mk hr; have HBc := Aside0.mk (Off.below HBb.out ho HG.out); clear hr ho) | (go_at_call 36; refine (RdN.text_calls _ g Ac L kc 2 most RDc.out KL.out).mono ?_; rintro r wd ⟨Ad, kd, rfl, hr, ho⟩; rw [rdT_err E2.out] at hr; rw [rdT_err E2.out]; rw [str_nil]; have RDd := Aside0.mk hr; have HBd := Aside0.mk (Off.below HBc.out ho HG.out); clear hr ho) | (go_at_call 24; refine (errno_calls _ g Ad L kd 2 RDd.out).mono ?_; rintro r wz ⟨rfl, rfl⟩) | (go_at_call 22; refine (left_calls _ g Ad L kd 2 RDd.out).mono ?_; rintro r wz ⟨rfl, rfl⟩; rw [LL.out]) | (go_at_call 15; refine (few_calls2 _ A l0 c hc).mono ?_; rintro r wz ⟨rfl, rfl⟩; rw [HTL.out]))
      go_roundw
      case rel => exact ⟨i + 1, _, _, by go_num, by omega, RDd.out, HBd.out⟩
      case measure => simp [intOf]; omega
    · have d12 : ¬ i < n1 ∨ (i < n1 ∧ (20 : Int) ≤ (i : Int)) := by omega
      clear hil
      rcases d12 with d1 | ⟨d1, d2⟩
      all_goals
        go_wp2_with (first | (go_at_call 25; refine (end_calls _ g A' L c' 2 RD.out).mono ?_; rintro r wz ⟨rfl, rfl⟩; rw [endE_ne E2.out]) | (go_at_call 14; refine (lives_calls _).mono ?_; rintro r wl ⟨rfl, hb⟩; have HL2 := Aside0.mk (below_step HB.out hb); clear hb))
        go_ret
        exact ⟨rfl, HL2.out⟩
theorem law_calls (A : Option Addr) (c : Nat) (l : List Int) (A1 : Option Addr) (c1 : Nat) (l1 : List Int) (most : Int) (w : World) (hr : Kd.C (Kd.int .u8) w A l.length l) (hc : l.length ≤ c) (ok : ∀ y ∈ l, (Lit.int .u8 y).wf = true)
    (hr1 : Kd.C (Kd.int .i64) w A1 l1.length l1) (hc1 : l1.length ≤ c1) (ok1 : ∀ y ∈ l1, (Lit.int .i64 y).wf = true) (hm : RangeI most) :
    Calls Try.prog 12 #[.slice A l.length c, .slice A1 l1.length c1, .int .i64 most] w fun e w' => e = .returned (.bool true) ∧ Below w.heap.size w w' :=
  walk A c l A1 c1 l1.length most w hr hc (wf_u8 ok) hr1.2.1
end Go.Proofs.Ytaddlkokencbkaa.RowLayStopsW
