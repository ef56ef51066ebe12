/- value.Key, by hand: the keys of the values, one behind the other; none of a value that may not be. -/
import Derived.Test.YtaddlkokencbkaaDoorMay
import Derived.Test.YtaddlkokencbkaaDoorVKey
namespace Go.Proofs.YtaddlkokencbkaaDoor.VKeyW
open Go.RowKit Go.Proofs.YtaddlkokencbkaaDoorW.PrintWords Go.Proofs.YtaddlkokencbkaaDoorW.PrintLast Go.Proofs.YtaddlkokencbkaaDoorW.PrintMore Go.Proofs.YtaddlkokencbkaaDoor.Q Go.Proofs.YtaddlkokencbkaaDoor.Shelf Go.Proofs.YtaddlkokencbkaaDoor.May Go.Proofs.YtaddlkokencbkaaDoor.VKey
set_option linter.unusedVariables false
set_option linter.unusedSimpArgs false
abbrev V := S51
def mayV (v : V) : Bool := mayB v.f0 v.f1 v.f2
def kb (l : List V) : List Int := l.flatMap fun v => keyB v.f0 v.f1 v.f2
theorem kb_snoc (l : List V) (v : V) : kb (l ++ [v]) = kb l ++ keyB v.f0 v.f1 v.f2 := by simp [kb]
theorem C3 {w : World} {A : Option Addr} {n : Nat} {xs : List V} (h : Kd.C k51 w A n xs) (j : Nat) (hj : j < n) : ∃ ad p v, A = some ad ∧ ad.add (j * 3) = p ∧ xs[j]? = some v ∧
    w.cell? p = some (.int .i64 v.f0) ∧ w.cell? ⟨p.block, p.off + 1, none⟩ = some (.int .i64 v.f1) ∧ w.cell? ⟨p.block, p.off + 2, none⟩ = some (.string v.f2) := by
  have hl := h.1
  obtain ⟨ad, cs, e, hcl, hk, hc⟩ := Kd.C_get h z51 j (by omega) (by omega)
  have hv : xs[j]? = some (xs.getD j z51) := by rw [List.getD_eq_getElem?_getD, List.getElem?_eq_getElem (by omega)]; rfl
  rw [Int.toNat_natCast] at hk hc
  generalize xs.getD j z51 = v at *
  obtain rfl := k51_open hk
  rw [show k51.sz = 3 from rfl] at hc
  have a1 : ∀ k : Nat, ad.add (j * 3 + (k + 1)) = ⟨(ad.add (j * 3)).block, (ad.add (j * 3)).off + (k + 1), none⟩ := fun k => by
    rw [← add_add]
    simp [Addr.add]
  exact ⟨ad, _, v, e, rfl, hv, hc 0 _ rfl, by rw [← a1 0]; exact hc 1 _ rfl, by rw [← a1 1]; exact hc 2 _ rfl⟩
theorem mem_at {l : List V} {i : Nat} {v : V} (h : l[i]? = some v) : v ∈ l := List.mem_of_getElem? h
theorem take_at {l : List V} {i : Nat} {v : V} (h : l[i]? = some v) : l.take (i + 1) = l.take i ++ [v] := by rw [List.take_add_one, h]; rfl
def RelK (w : World) (l : List V) (v4 v9 : Value) (wr : World) : Prop :=
  ∃ (i : Nat), v9 = .int .i64 (i : Int) ∧ i ≤ l.length ∧ Kd.R (Kd.int .u8) 5 wr w.heap.size (fun _ => True) v4 (kb (l.take i)) ∧ (∀ v ∈ l.take i, mayV v = true) ∧ Below w.heap.size w wr
def keyR (l : List V) : List Int := if l.all mayV then kb l else []
def keyE (l : List V) : Int := if l.all mayV then 0 else 1
theorem keyB_len (k n : Int) (s : ByteArray) : (keyB k n s).length ≤ 2 * s.size + 9 := by
  have := esc_len (bytesOf s)
  rw [bytesOf_length] at this
  unfold keyB be8
  split
  · simp
  · split
    · simp
    · split
      · simp; omega
      · simp
theorem kb_len (B : Nat) : ∀ l : List V, (∀ v ∈ l, v.f2.size ≤ B) → (kb l).length ≤ (2 * B + 9) * l.length
  | [], _ => by simp [kb]
  | v :: l, h => by
    have h1 := keyB_len v.f0 v.f1 v.f2
    have h2 := h v (by simp)
    have h3 := kb_len B l (fun u hu => h u (List.mem_cons_of_mem _ hu))
    have e : kb (v :: l) = keyB v.f0 v.f1 v.f2 ++ kb l := by simp [kb]
    rw [e, List.length_append, List.length_cons, Nat.mul_add, Nat.mul_one]
    omega
set_option maxHeartbeats 2000000 in
theorem key_calls (A : Option Addr) (c : Nat) (l : List V) (w : World) (hr : Kd.C k51 w A l.length l) (hc : l.length ≤ c) (hs : ∀ v ∈ l, v.f2.size ≤ 4096) (hn : l.length ≤ 1000) (hT : Tabs w) :
    Calls Tryd.prog 25 #[.slice A l.length c] w fun e w' => e = .returned (.tuple #[.string (strOfNums (keyR l)), .int .i64 (keyE l)]) ∧ Below w.heap.size w w' := by
  have HR := Aside0.mk hr
  have HS := Aside0.mk hs
  have HT := Aside0.mk hT
  clear hr hs hT
  go_enter Tryd.func25, Tryd.ntmps25
  go_wp2
  go_loopw [4, 9] (fun v4 v9 wr => RelK w l v4 v9 wr) (fun _ v9 _ => (l.length - intOf v9).toNat)
  case atStart => exact ⟨0, rfl, by omega, Kd.R_nil _ _ _ _ _, by simp, Below.refl _ _⟩
  case round =>
    obtain ⟨i, rfl, hi, hR, hall, hb⟩ := hrel
    have HO := Aside0.mk hR
    have HA := Aside0.mk hall
    have HB := Aside0.mk hb
    clear hR hall hb
    by_cases hil : i < l.length
    · have c1 : decide ((i : Int) < (l.length : Int)) = true := decide_eq_true (by omega)
      obtain ⟨ad, pp, v, rfl, hpp, hv, q0, q1, q2⟩ := C3 (Kd.C_below HR.out HB.out) i hil
      have HV := Aside0.mk hv
      clear hv
      obtain ⟨f0, f1, f2⟩ := v
      dsimp only at q0 q1 q2
      have HTW := Aside0.mk (Tabs.below HT.out HB.out)
      have hs2 := HS.out _ (mem_at HV.out)
      dsimp only at hs2
      obtain ⟨pre, hpre⟩ : ∃ pre, kb (l.take i) = pre := ⟨_, rfl⟩
      have HPre := Aside0.mk hpre
      have HO2 : Aside0 (Kd.R (Kd.int .u8) 5 wr w.heap.size (fun _ => True) u4 pre) := ⟨by rw [← hpre]; exact HO.out⟩
      have hlen : pre.length ≤ 10000000 := by
        rw [← hpre]
        have := kb_len 4096 (l.take i) (fun u hu => HS.out u (List.mem_of_mem_take hu))
        rw [List.length_take] at this
        have h2 : min i l.length ≤ 1000 := by omega
        have h3 : (2 * 4096 + 9) * min i l.length ≤ (2 * 4096 + 9) * 1000 := Nat.mul_le_mul (Nat.le_refl _) h2
        omega
      obtain ⟨KK, hKK⟩ := VKey.key_f f0 f1 f2 (by omega) pre (by omega)
      have HK := Aside0.mk (hKK KK (Nat.le_refl _))
      clear hpre hKK
      have HTA := Aside0.mk (fun o => Tabs.below HTW.out (below_alloc (Below.refl wr.heap.size wr) o))
      have HBA := Aside0.mk (fun o => below_step HB.out (below_alloc (Below.refl wr.heap.size wr) o))
      by_cases hm : mayB f0 f1 f2 = true
      · have HM := Aside0.mk hm
        clear hm
        go_wp2_with (first | (go_at_call 31; refine (may_calls f0 f1 f2 _ (by omega) (HTA.out _)).mono ?_; rintro e w1 ⟨rfl, hb1⟩; rw [HM.out]; have BK := blk_below (blk_new wr _) hb1; have kc0 := (blk_cell BK 0).trans rfl; have kc1 := (blk_cell BK 1).trans rfl; have kc2 := (blk_cell BK 2).trans rfl; have HO3 := Aside0.mk (Kd.R_below (Kd.R_alloc HO2.out _) hb1); have HB1 := Aside0.mk (below_step (HBA.out _) hb1); clear hb1 BK) | (go_at_call 48; refine (value_key.calls KK (fun _ => True) u4 pre f0 f1 f2 _ w w1 HB1.out HO3.out HK.out).mono ?_; rintro e w2 ⟨v0, rfl, ho, hb2, _⟩; have HO4 := Aside0.mk (Kd.R_mono ho (fun _ _ => trivial)); have HB2 := Aside0.mk hb2; clear ho hb2))
        go_roundw
        case rel => exact ⟨i + 1, by go_num, by omega, by rw [take_at HV.out, kb_snoc, HPre.out]; exact HO4.out, fun u hu => by
          rw [take_at HV.out] at hu
          rcases List.mem_append.1 hu with h | h
          · exact HA.out u h
          · obtain rfl := List.mem_singleton.1 h; exact HM.out, HB2.out⟩
        case measure => simp [intOf]; omega
      · have HM : Aside0 (mayB f0 f1 f2 = false) := ⟨by simpa using hm⟩
        have E : Aside0 (l.all mayV = false) := ⟨by
          rw [List.all_eq_false]
          exact ⟨_, mem_at HV.out, by unfold mayV; rw [HM.out]; simp⟩⟩
        clear hm
        go_wp2_with (first | (go_at_call 31; refine (may_calls f0 f1 f2 _ (by omega) (HTA.out _)).mono ?_; rintro e w1 ⟨rfl, hb1⟩; rw [HM.out]; have HB1 := Aside0.mk (below_step (HBA.out _) hb1); clear hb1))
        go_ret2
        exact ⟨by unfold keyR keyE; rw [E.out]; rfl, HB1.out⟩
    · have hi2 : i = l.length := by omega
      subst hi2
      have E : Aside0 (l.all mayV = true) := ⟨by
        rw [List.all_eq_true]
        intro u hu
        exact HA.out u (by rw [List.take_of_length_le (Nat.le_refl _)]; exact hu)⟩
      have HO2 : Aside0 (Kd.R (Kd.int .u8) 5 wr w.heap.size (fun _ => True) u4 (kb l)) := ⟨by have h := HO.out; rw [List.take_of_length_le (Nat.le_refl _)] at h; exact h⟩
      obtain ⟨A4, c4, rfl, hc4, hC4⟩ := Kd.R_reads HO2.out
      have hcs : (convert 25 9 (.slice A4 (kb l).length c4)).run Tryd.prog wr = .ok (.string (strOfNums (kb l))) wr := Kd.C_string Tryd.underlying25 Tryd.underlying5 Tryd.underlying9 hC4
      clear hC4
      go_wp2
      go_ret2
      exact ⟨by unfold keyR keyE; rw [E.out]; rfl, HB.out⟩
end Go.Proofs.YtaddlkokencbkaaDoor.VKeyW
