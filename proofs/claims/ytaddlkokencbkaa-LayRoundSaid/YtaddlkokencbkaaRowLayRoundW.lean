/- The walk of the law LayRound with its answer: what is written is read as it was, to the end. No condition. -/
import Derived.Test.YtaddlkokencbkaaFew
import Derived.Test.YtaddlkokencbkaaRdP
import Derived.Test.YtaddlkokencbkaaPlain
import Derived.Test.YtaddlkokencbkaaOpenN
import Derived.Deep.RegionWith
namespace Go.Proofs.Ytaddlkokencbkaa.RowLayRoundW
open Go.RowKit Go.Proofs.YtaddlkokencbkaaW.PrintWords Go.Proofs.YtaddlkokencbkaaW.PrintLast Go.Proofs.YtaddlkokencbkaaW.PrintMore Go.Proofs.Ytaddlkokencbkaa.Exact Go.Proofs.Ytaddlkokencbkaa.Rd Go.Proofs.Ytaddlkokencbkaa.RdN Go.Proofs.Ytaddlkokencbkaa.Few Go.Proofs.Ytaddlkokencbkaa.Lay Go.Proofs.Ytaddlkokencbkaa.Plain Go.Proofs.Ytaddlkokencbkaa.OpenN
set_option linter.unusedVariables false
set_option linter.unusedSimpArgs false
def zs (l : List Int) : List Int := l.flatMap fun x => digs (Lib.zigzag x)
theorem zs_nil : zs [] = [] := rfl
theorem zs_cons (x : Int) (l : List Int) : zs (x :: l) = digs (Lib.zigzag x) ++ zs l := by simp [zs]
theorem zs_snoc (l : List Int) (x : Int) : zs (l ++ [x]) = zs l ++ digs (Lib.zigzag x) := by simp [zs]
theorem zs_len : ∀ l : List Int, (∀ y ∈ l, RangeI y) → (zs l).length ≤ 10 * l.length
  | [], _ => by simp [zs]
  | x :: l, h => by
    have hx := h x (by simp)
    have := digs_len10 (Lib.zigzag_lt hx.1 hx.2)
    have := zs_len l (fun y hy => h y (List.mem_cons_of_mem _ hy))
    rw [zs_cons, List.length_append, List.length_cons]
    omega
theorem zs_bytes (l : List Int) : ∀ y ∈ zs l, 0 ≤ y ∧ y < 256 := fun y hy => by
  simp only [zs, List.mem_flatMap] at hy
  obtain ⟨x, _, hy⟩ := hy
  exact digs_bytes _ y hy
theorem Ccell64 {w : World} {A : Option Addr} {n : Nat} {xs : List Int} (h : Kd.C (Kd.int .i64) w A n xs) (j : Nat) (hj : j < n) : ∃ ad, A = some ad ∧ w.cell? (ad.add j) = some (.int .i64 (xs.getD j 0)) := by
  obtain ⟨ad, cs, e, hcl, hk, hc⟩ := Kd.C_get h 0 j (by omega) (by omega)
  match cs, hcl with
  | [u], _ =>
    have h2 := hc 0 u rfl
    obtain rfl : u = .int .i64 (xs.getD j 0) := by
      have := hk
      simpa [Kd.int, Kd.scalar] using this
    refine ⟨ad, e, ?_⟩
    rw [show (Kd.int .i64).sz = 1 from rfl] at h2
    simpa using h2
theorem R_gives {w : World} {base : Nat} {v : Value} {l : List Int} (h : Kd.R (Kd.int .u8) 5 w base (fun _ => True) v l) : ∃ A c, v = .slice A l.length c ∧ l.length ≤ c ∧ Kd.C (Kd.int .u8) w A l.length l := Kd.R_reads h
def Rel1 (w : World) (l : List Int) (v5 v6 v7 : Value) (wr : World) : Prop :=
  ∃ (i : Nat) (pre : List Int) (A : Option Addr) (c : Nat), v5 = .slice A pre.length c ∧ v6 = .int .i64 (i : Int) ∧ v7 = .int .i64 (i : Int) ∧ i ≤ l.length ∧ i ≤ 20 ∧ pre = zs (l.take i) ∧ pre.length ≤ c ∧ Kd.C (Kd.int .u8) wr A pre.length pre ∧ Below w.heap.size w wr
def Rel2 (w : World) (g m : Nat) (l tail : List Int) (v9 : Value) (wr : World) : Prop :=
  ∃ (j : Nat) (A : Option Addr) (c : Nat), v9 = .int .i64 (j : Int) ∧ j ≤ m ∧ Rd wr g A (zs ((l.take m).drop j) ++ tail) c 0 ∧ Below w.heap.size w wr
theorem take_snoc {l : List Int} {i : Nat} {x : Int} (h : i < l.length) (hx : l.getD i 0 = x) : zs (l.take (i + 1)) = zs (l.take i) ++ digs (Lib.zigzag x) := by
  rw [← zs_snoc, List.take_add_one, ← hx, List.getD_eq_getElem?_getD, List.getElem?_eq_getElem h]
  simp
theorem drop_cons {l : List Int} {j m : Nat} {x : Int} (h : j < l.length) (hm : j < m) (hx : l.getD j 0 = x) : zs ((l.take m).drop j) = digs (Lib.zigzag x) ++ zs ((l.take m).drop (j + 1)) := by
  rw [← zs_cons, List.drop_eq_getElem_cons (by rw [List.length_take]; omega), List.getElem_take, ← hx, List.getD_eq_getElem?_getD, List.getElem?_eq_getElem h]
  rfl
set_option maxHeartbeats 4000000 in
theorem walk (A : Option Addr) (c : Nat) (l : List Int) (s : ByteArray) (w : World) (hr : Kd.C (Kd.int .i64) w A l.length l) (hc : l.length ≤ c) (ok : ∀ y ∈ l, RangeI y) (s2 : ByteArray)
    (hS : (200 < s.size ∧ s.extract 0 200 = s2) ∨ (s.size ≤ 200 ∧ s = s2)) (hs2 : s2.size ≤ 200) :
    Calls Try.prog 10 #[.slice A l.length c, .string s] w fun e w' => e = .returned (.bool true) ∧ Below w.heap.size w w' := by
  have HR := Aside0.mk hr
  have hlm := hr.2.1
  have OK := Aside0.mk ok
  have cxx : ∀ y : Int, (y != y) = false := by simp
  have cee : ∀ y : List UInt8, (y == y) = true := by simp
  have HBS := Aside0.mk (bytesOf_length s2)
  have HBI := Aside0.mk (ofNums_bytesOf s2)
  have KB := Aside0.mk (bytesOf_bytes s2)
  have cS : (decide ((s.size : Int) > 200) = true ∧ 200 ≤ s.size ∧ s.extract 0 200 = s2) ∨ (decide ((s.size : Int) > 200) = false ∧ s2 = s) := by
    rcases hS with ⟨h, e⟩ | ⟨h, e⟩
    · exact .inl ⟨decide_eq_true (by omega), by omega, e⟩
    · exact .inr ⟨decide_eq_false (by omega), e.symm⟩
  clear hS hr ok
  rcases cS with ⟨c1, csz, c2⟩ | ⟨c1, rfl⟩
  all_goals
    go_enter Try.func10, Try.ntmps10
    go_wp2
    go_loopw [5, 6, 7] (fun v5 v6 v7 wr => Rel1 w l v5 v6 v7 wr) (fun _ _ v7 _ => (l.length - intOf v7).toNat)
    case atStart => exact ⟨0, [], none, 0, rfl, rfl, rfl, by omega, by omega, rfl, by simp, Kd.C_nil _ _, Below.refl _ _⟩
    case round =>
      obtain ⟨i, pre, A1, k1, rfl, rfl, rfl, hi, hi20, hpre, hk1, hC, hb⟩ := hrel
      have HP := Aside0.mk hpre
      have HC := Aside0.mk hC
      have HB := Aside0.mk hb
      have hpl : pre.length ≤ 200 := by
        have := zs_len (l.take i) (fun y hy => OK.out y (List.mem_of_mem_take hy))
        rw [← hpre, List.length_take] at this
        omega
      clear hpre hC hb
      by_cases hil : i < l.length ∧ i < 20
      · obtain ⟨hil, hi2⟩ := hil
        have d2 : (i : Int) < 20 := by omega
        obtain ⟨x, hx⟩ : ∃ x, l.getD i 0 = x := ⟨_, rfl⟩
        obtain ⟨ad, rfl, q0⟩ := Ccell64 (Kd.C_below HR.out HB.out) i hil
        rw [hx] at q0
        have hxr := OK.out x (by rw [← hx, List.getD_eq_getElem?_getD, List.getElem?_eq_getElem hil]; exact List.getElem_mem _)
        have HX := Aside0.mk hx
        have HXR := Aside0.mk hxr
        obtain ⟨p2, hp2⟩ : ∃ p2, pre ++ digs (Lib.zigzag x) = p2 := ⟨_, rfl⟩
        have HP2 := Aside0.mk hp2
        clear hx hxr hp2
        go_wp2_with (first | (go_at_call 17; refine (Lay.signed_calls A1 k1 pre x _ HC.out hk1 (by unfold lim; omega) HXR.out.1 HXR.out.2).mono ?_; rintro e w1 ⟨v, rfl, ho, hb⟩; rw [HP2.out] at ho; obtain ⟨A2, k2, rfl, hk2, hC2⟩ := R_gives ho; have HC2 := Aside0.mk hC2; have HB2 := Aside0.mk (below_step HB.out hb); clear ho hb hC2))
        go_roundw
        case rel => exact ⟨i + 1, _, A2, k2, rfl, by go_num, by go_num, by omega, by omega, by rw [← HP2.out, HP.out]; exact (take_snoc hil HX.out).symm, hk2, HC2.out, HB2.out⟩
        case measure => simp [intOf]; omega
      · have d12 : ¬ i < l.length ∨ (i < l.length ∧ (20 : Int) ≤ (i : Int)) := by omega
        obtain ⟨tail, htail⟩ : ∃ tail, digs s2.size ++ bytesOf s2 = tail := ⟨_, rfl⟩
        obtain ⟨L, hL⟩ : ∃ L, pre ++ tail = L := ⟨_, rfl⟩
        have HL : Aside0 (pre ++ digs s2.size ++ bytesOf s2 = L) := ⟨by rw [List.append_assoc, htail, hL]⟩
        have HT := Aside0.mk htail
        have HL0 : Aside0 (L = zs ((l.take i).drop 0) ++ tail) := ⟨by rw [← hL, HP.out]; rfl⟩
        have KT : Aside0 (∀ y ∈ tail, 0 ≤ y ∧ y < 256) := ⟨fun y hy => by
          rw [← htail] at hy
          rcases List.mem_append.1 hy with h | h
          · exact digs_bytes _ y h
          · exact KB.out y h⟩
        clear htail hL hil
        rcases d12 with d1 | ⟨d1, d2⟩
        all_goals
          go_wp2_with (first | (go_at_call 19; refine (Lay.text_calls A1 k1 pre s2 wr HC.out hk1 (by unfold lim; omega)).mono ?_; rintro e w2 ⟨v, rfl, ho, hb⟩; rw [HL.out] at ho; obtain ⟨A2, k2, rfl, hk2, hC2⟩ := R_gives ho; have HC2 := Aside0.mk hC2; have HB2 := Aside0.mk (below_step HB.out hb); clear ho hb hC2) | (go_at_call 21; refine (read_calls _ A2 L k2 HC2.out hk2).mono ?_; rintro r w3 ⟨g, rfl, hg, hr, hb⟩; rw [HL0.out] at hr; have RD := Aside0.mk hr; have HB3 := Aside0.mk (below_step HB2.out hb); have HG : Aside0 (w.heap.size ≤ g) := ⟨by have := below_size HB2.out; omega⟩; clear hr hb hg))
          go_loopw [9] (fun v9 wq => Rel2 w g i l tail v9 wq) (fun v9 _ => (i - intOf v9).toNat)
          case atStart => exact ⟨0, _, _, rfl, by omega, RD.out, HB3.out⟩
          case round =>
            clear RD HB3 HB2 HC2 HC HB hk2
            obtain ⟨j, A3, k3, rfl, hj, hrd, hb⟩ := hrel
            have RD := Aside0.mk hrd
            have HB := Aside0.mk hb
            clear hrd hb
            have KZ : Aside0 (∀ y ∈ zs ((l.take i).drop j) ++ tail, 0 ≤ y ∧ y < 256) := ⟨fun y hy => by
              rcases List.mem_append.1 hy with h | h
              · exact zs_bytes _ y h
              · exact KT.out y h⟩
            by_cases hji : j < i
            · obtain ⟨x, hx⟩ : ∃ x, l.getD j 0 = x := ⟨_, rfl⟩
              have hjl : j < l.length := by omega
              obtain ⟨ad, rfl, qw⟩ := Ccell64 HR.out j hjl
              rw [hx] at qw
              have hlt := World.block_lt_of_cell? w (ad.add j) qw
              have hxr := OK.out x (by rw [← hx, List.getD_eq_getElem?_getD, List.getElem?_eq_getElem hjl]; exact List.getElem_mem _)
              have q0 := pw_cell_below HB.out qw
              have QW := Aside0.mk qw
              have ED : Aside0 (rdD (zs ((l.take i).drop j) ++ tail) 0 = (Lib.zigzag x, zs ((l.take i).drop (j + 1)) ++ tail, 0)) := ⟨by rw [drop_cons hjl hji hx, List.append_assoc]; exact rdD_digs (Lib.zigzag_lt hxr.1 hxr.2) _⟩
              have EU : Aside0 (unz (Lib.zigzag x) = x) := ⟨unz_zig⟩
              clear hx hxr qw hlt
              go_wp2
              go_region_with (first | (go_at_call 35; refine (RdN.signed_calls _ g A3 _ k3 0 RD.out.drew KZ.out).mono ?_; rintro r w1 ⟨A4, k4, rfl, hrd, hoff⟩; rw [ED.out] at hrd; rw [ED.out]; rw [EU.out]; have RD1 := Aside0.mk hrd; have HB1 := Aside0.mk (Off.below (HB.out.drew) hoff HG.out); have q1 := pw_cell_below HB1.out QW.out; clear hrd hoff))
              all_goals
                go_wp2
                go_roundw
                case rel => exact ⟨j + 1, _, _, by go_num, by omega, RD1.out, HB1.out⟩
                case measure => simp [intOf]; omega
            · have ET : Aside0 (rdT 200 (zs ((l.take i).drop j) ++ tail) 0 = (bytesOf s2, [], 0)) := ⟨by
                rw [List.drop_eq_nil_of_le (by rw [List.length_take]; omega), zs_nil, List.nil_append, ← HT.out, ← HBS.out]
                have := rdT_text (s := bytesOf s2) (most := 200) (by rw [HBS.out]; omega) (by rw [HBS.out]; omega) []
                rw [List.append_nil] at this
                exact this⟩
              go_wp2_with (first | (go_at_call 36; refine (RdN.text_calls _ g A3 _ k3 0 200 RD.out KZ.out).mono ?_; rintro r w1 ⟨A4, k4, rfl, hrd, hoff⟩; rw [ET.out] at hrd; rw [ET.out]; rw [HBI.out]; have RD1 := Aside0.mk hrd; have HB1 := Aside0.mk (Off.below HB.out hoff HG.out); clear hrd hoff) | (go_at_call 25; refine (end_calls _ g A4 [] k4 0 RD1.out).mono ?_; rintro r wz ⟨rfl, rfl⟩; rw [show endE 0 ([] : List Int).length = 0 from rfl]) | (go_at_call 22; refine (left_calls _ g A4 [] k4 0 RD1.out).mono ?_; rintro r wz ⟨rfl, rfl⟩; rw [show (([] : List Int).length : Int) = 0 from rfl]) | (go_at_call 14; refine (lives_calls _).mono ?_; rintro r wl ⟨rfl, hb⟩; have HL2 := Aside0.mk (below_step HB1.out hb); clear hb))
              go_ret
              exact ⟨rfl, HL2.out⟩
theorem cut200 (s : ByteArray) : ∃ s2, ((200 < s.size ∧ s.extract 0 200 = s2) ∨ (s.size ≤ 200 ∧ s = s2)) ∧ s2.size ≤ 200 := by
  by_cases h : 200 < s.size
  · exact ⟨_, .inl ⟨h, rfl⟩, by rw [ByteArray.size_extract]; omega⟩
  · exact ⟨_, .inr ⟨by omega, rfl⟩, by omega⟩
theorem law_calls (A : Option Addr) (c : Nat) (l : List Int) (s : ByteArray) (w : World) (hr : Kd.C (Kd.int .i64) w A l.length l) (hc : l.length ≤ c) (ok : ∀ y ∈ l, (Lit.int .i64 y).wf = true) (hs : s.size ≤ 140737488351232) :
    Calls Try.prog 10 #[.slice A l.length c, .string s] w fun e w' => e = .returned (.bool true) ∧ Below w.heap.size w w' := by
  obtain ⟨s2, hS, h2⟩ := cut200 s
  exact walk A c l s w hr hc (fun y hy => rangeI_of (ok y hy)) s2 hS h2
end Go.Proofs.Ytaddlkokencbkaa.RowLayRoundW
