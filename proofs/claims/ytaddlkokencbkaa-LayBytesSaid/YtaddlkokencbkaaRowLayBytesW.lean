/- The walk of the law LayBytes with its answer: a reader tells byte by byte what there is, in order, and ErrEnd at last. No condition. -/
import Derived.Test.YtaddlkokencbkaaFew
import Derived.Deep.RegionWith
namespace Go.Proofs.Ytaddlkokencbkaa.RowLayBytesW
open Go.RowKit Go.Proofs.YtaddlkokencbkaaW.PrintWords Go.Proofs.YtaddlkokencbkaaW.PrintLast Go.Proofs.YtaddlkokencbkaaW.PrintMore Go.Proofs.Ytaddlkokencbkaa.Exact Go.Proofs.Ytaddlkokencbkaa.Rd Go.Proofs.Ytaddlkokencbkaa.Few
set_option linter.unusedVariables false
set_option linter.unusedSimpArgs false
theorem byteE_ok {l : List Int} (h : 0 < l.length) : byteE l 0 = 0 := if_pos ⟨rfl, h⟩
theorem byteL_ok (l : List Int) : byteL l 0 = l.drop 1 := rfl
theorem byteV_ok (l : List Int) : byteV l 0 = l.getD 0 0 := by cases l <;> rfl
theorem wf_u8 {l : List Int} (h : ∀ y ∈ l, (Lit.int .u8 y).wf = true) : ∀ y ∈ l, 0 ≤ y ∧ y < 256 := fun y hy => by
  have := h y hy
  simp [Lit.wf, IntKind.min, IntKind.max, IntKind.signed, IntKind.bits] at this
  omega
theorem add_block (ad : Addr) (i : Nat) : (ad.add i).block = ad.block := by unfold Addr.add; split <;> rfl
def RelB (w : World) (g : Nat) (A : Option Addr) (l : List Int) (v4 : Value) (wr : World) : Prop :=
  ∃ (i : Nat) (A' : Option Addr) (c' : Nat), v4 = .int .i64 (i : Int) ∧ i ≤ l.length ∧ Rd wr g A' (l.drop i) c' 0 ∧ Kd.C (Kd.int .u8) wr A l.length l ∧ Below w.heap.size w wr
set_option maxHeartbeats 2000000 in
theorem walk (A : Option Addr) (c : Nat) (l0 : List Int) (w : World) (hr : Kd.C (Kd.int .u8) w A l0.length l0) (hc : l0.length ≤ c) (ok0 : ∀ y ∈ l0, 0 ≤ y ∧ y < 256) :
    Calls Try.prog 5 #[.slice A l0.length c] w fun e w' => e = .returned (.bool true) ∧ Below w.heap.size w w' := by
  obtain ⟨l, hl⟩ : ∃ l, l0.take 100 = l := ⟨_, rfl⟩
  have HF : Aside0 (∀ W, Kd.C (Kd.int .u8) W A l0.length l0 → Kd.C (Kd.int .u8) W A l.length l) := ⟨fun W h => by
    have := Kd.C_take h (m := min 100 l0.length) (by omega)
    rw [← List.take_eq_take_min, hl] at this
    exact this⟩
  have ok : Aside0 (∀ y ∈ l, 0 ≤ y ∧ y < 256) := ⟨fun y hy => ok0 y (List.mem_of_mem_take (hl ▸ hy))⟩
  have hlc : l.length ≤ c := by rw [← hl, List.length_take]; omega
  have hl100 : l.length ≤ 100 := by rw [← hl, List.length_take]; omega
  have HL := Aside0.mk hl
  have HR := Aside0.mk hr
  clear hl ok0 hr
  go_enter Try.func5, Try.ntmps5
  go_wp2_with (first | (go_at_call 15; refine (few_calls _ A l0 c HR.out hc).mono ?_; rintro r w1 ⟨rfl, rfl⟩; rw [HL.out]) | (go_at_call 21; refine (read_calls _ A l c (HF.out _ HR.out) hlc).mono ?_; rintro r w1 ⟨g, rfl, hg, hrd, hb⟩; have RD := Aside0.mk hrd; have HB := Aside0.mk hb; have HC := Aside0.mk (Kd.C_below (HF.out _ HR.out) hb); clear hrd hb))
  go_loopw [4] (fun v4 wr => RelB w g A l v4 wr) (fun v4 _ => (l.length - intOf v4).toNat)
  case atStart => exact ⟨0, A, c, rfl, by omega, RD.out, HC.out, HB.out⟩
  case round =>
    clear RD HB HC
    obtain ⟨i, A', c', rfl, hi, hrd, hC, hb⟩ := hrel
    have RD := Aside0.mk hrd
    have HB := Aside0.mk hb
    have HC := Aside0.mk hC
    clear hrd hb hC
    by_cases hil : i < l.length
    · have c1 : decide ((i : Int) < (l.length : Int)) = true := decide_eq_true (by omega)
      obtain ⟨q, hq⟩ : ∃ q, (l.drop i).length = q := ⟨_, rfl⟩
      have hqi : (q : Int) = (l.length : Int) - i := by rw [← hq, List.length_drop]; omega
      have HQ := Aside0.mk hq
      have hwq : IntKind.i64.wrap ((l.length : Int) - (i : Int)) = (q : Int) := by rw [IntKind.wrap_i64]; omega
      have cqq : ((q : Int) != (q : Int)) = false := by simp
      have cxx : ∀ y : Int, (y != y) = false := by simp
      obtain ⟨ad, rfl, q0⟩ := C_cell HC.out i hil
      obtain ⟨x, hx⟩ : ∃ x, l.getD i 0 = x := ⟨_, rfl⟩
      have HX : Aside0 (byteV (l.drop i) 0 = x) := ⟨by rw [byteV_ok, ← hx]; simp [List.getD_eq_getElem?_getD]⟩
      have hx2 := ok.out x (by rw [← hx, List.getD_eq_getElem?_getD, List.getElem?_eq_getElem hil]; exact List.getElem_mem _)
      rw [hx] at q0
      have HOK : Aside0 (∀ y ∈ l.drop i, 0 ≤ y ∧ y < 256) := ⟨fun y hy => ok.out y (List.mem_of_mem_drop hy)⟩
      have hx3 : IntKind.i64.wrap x = x := by rw [IntKind.wrap_i64]; omega
      have hlp : 0 < (l.drop i).length := by rw [hq]; omega
      clear hqi
      have HLP : Aside0 (byteE (l.drop i) 0 = 0) := ⟨byteE_ok hlp⟩
      have HNE : Aside0 ((ad.add i).block ≠ g) := ⟨by rw [add_block]; exact C_apart RD.out.1 HC.out ad rfl (by omega)⟩
      clear hq hx hlp
      go_wp2
      go_region_with (first | (go_at_call 22; refine (left_calls _ g A' (l.drop i) c' 0 RD.out.drew).mono ?_; rintro r wz ⟨rfl, rfl⟩; rw [HQ.out]) | (go_at_call 23; refine (byte_calls _ g A' (l.drop i) c' 0 RD.out.drew HOK.out).mono ?_; rintro r w1 ⟨A2, c2, rfl, hrd, hoff⟩; rw [HX.out]; rw [HLP.out, byteL_ok] at hrd; have RD1 := Aside0.mk hrd; have HO1 := Aside0.mk hoff; have q1 := cell_off (W := wr.drew) q0 HNE.out hoff; clear hrd hoff) | (go_at_call 24; refine (errno_calls _ g A2 _ c2 0 RD1.out).mono ?_; rintro r wz ⟨rfl, rfl⟩))
      all_goals
        go_wp2
        go_roundw
        case rel => exact ⟨i + 1, A2, c2, by go_num, by omega, by have h := RD1.out; rw [List.drop_drop, Nat.add_comm] at h; first | exact h | (rw [Nat.add_comm]; exact h), C_off RD.out.drew.1 (Kd.C_drew HC.out) HO1.out, Off.below (HB.out.drew) HO1.out hg⟩
        case measure => simp [intOf]; omega
    · have c1 : decide ((i : Int) < (l.length : Int)) = false := decide_eq_false (by omega)
      have E : Aside0 (l.drop i = []) := ⟨List.drop_eq_nil_of_le (by omega)⟩
      have E1 : Aside0 (endE 0 (l.drop i).length = 0) := ⟨by rw [E.out]; rfl⟩
      have E2 : Aside0 (byteV (l.drop i) 0 = 0) := ⟨by rw [E.out]; rfl⟩
      have E3 : Aside0 (byteE (l.drop i) 0 = 4) := ⟨by rw [E.out]; rfl⟩
      have HOK : Aside0 (∀ y ∈ l.drop i, 0 ≤ y ∧ y < 256) := ⟨fun y hy => ok.out y (List.mem_of_mem_drop hy)⟩
      go_wp2_with (first | (go_at_call 25; first | (refine (end_calls _ g A2 _ c2 4 RD1.out).mono ?_; rintro r wz ⟨rfl, rfl⟩; rw [endE_ne (by decide)]) | (refine (end_calls _ g A' (l.drop i) c' 0 RD.out).mono ?_; rintro r wz ⟨rfl, rfl⟩; rw [E1.out])) | (go_at_call 23; refine (byte_calls _ g A' (l.drop i) c' 0 RD.out HOK.out).mono ?_; rintro r w1 ⟨A2, c2, rfl, hrd, hoff⟩; rw [E2.out]; rw [E3.out] at hrd; have RD1 := Aside0.mk hrd; have HO1 := Aside0.mk hoff; clear hrd hoff) | (go_at_call 24; refine (errno_calls _ g A2 _ c2 4 RD1.out).mono ?_; rintro r wz ⟨rfl, rfl⟩) | (go_at_call 14; refine (lives_calls _).mono ?_; rintro r wl ⟨rfl, hb⟩; have HL2 := Aside0.mk (below_step (Off.below HB.out HO1.out hg) hb); clear hb))
      go_ret
      exact ⟨rfl, HL2.out⟩
theorem law_calls (A : Option Addr) (c : Nat) (l : List Int) (w : World) (hr : Kd.C (Kd.int .u8) w A l.length l) (hc : l.length ≤ c) (ok : ∀ y ∈ l, (Lit.int .u8 y).wf = true) :
    Calls Try.prog 5 #[.slice A l.length c] w fun e w' => e = .returned (.bool true) ∧ Below w.heap.size w w' := walk A c l w hr hc (wf_u8 ok)
end Go.Proofs.Ytaddlkokencbkaa.RowLayBytesW
