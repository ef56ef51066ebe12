/- The walk of the law ValueReads: what is a key's values, or none's, is told as the document says. No condition. -/
import Derived.Test.YtaddlkokencbkaaDoorRKey
import Derived.Test.YtaddlkokencbkaaDoorLives3
import Derived.Deep.DeepCutAuto
namespace Go.Proofs.YtaddlkokencbkaaDoor.RowValueReadsW
open Go.RowKit Go.Proofs.YtaddlkokencbkaaDoorW.PrintWords Go.Proofs.YtaddlkokencbkaaDoorW.PrintLast Go.Proofs.YtaddlkokencbkaaDoorW.PrintMore Go.Proofs.YtaddlkokencbkaaDoor.Q Go.Proofs.YtaddlkokencbkaaDoor.Shelf Go.Proofs.YtaddlkokencbkaaDoor.May Go.Proofs.YtaddlkokencbkaaDoor.VKeyW Go.Proofs.YtaddlkokencbkaaDoor.OpenV Go.Proofs.YtaddlkokencbkaaDoor.Vals Go.Proofs.YtaddlkokencbkaaDoor.VOrd Go.Proofs.YtaddlkokencbkaaDoor.Plain Go.Proofs.YtaddlkokencbkaaDoor.Values Go.Proofs.YtaddlkokencbkaaDoor.VPure
set_option linter.unusedVariables false
set_option linter.unusedSimpArgs false
set_option maxHeartbeats 4000000 in
set_option maxRecDepth 100000 in
theorem walk (s s2 : ByteArray) (o : Option (List V)) (w : World) (hT : Tabs w) (hP : Pow w) (hS : (60 < s.size ∧ s.extract 0 60 = s2) ∨ (s.size ≤ 60 ∧ s = s2)) (hs2 : s2.size ≤ 60) (ho : valsP s2.size s2 = o)
    (hl : ∀ l, o = some l → strOfNums (kb l) = s2 ∧ (∀ v ∈ l, mayV v = true) ∧ l.length ≤ 60 ∧ ∀ v ∈ l, v.f2.size ≤ 4096) :
    Calls Tryd.prog 10 #[.string s] w fun e w' => e = .returned (.bool true) ∧ Below w.heap.size w w' := by
  have cS : ((60 : Int) < (s.size : Int) ∧ 60 ≤ s.size ∧ s.extract 0 60 = s2) ∨ (¬ (60 : Int) < (s.size : Int) ∧ s2 = s) := by
    rcases hS with ⟨h, e⟩ | ⟨h, e⟩
    · exact .inl ⟨by omega, by omega, e⟩
    · exact .inr ⟨by omega, e.symm⟩
  have CS := Aside0.mk cS
  have HO := Aside0.mk ho
  have HL := Aside0.mk hl
  have HT := Aside0.mk hT
  have HP := Aside0.mk hP
  clear cS ho hl hT hP hS
  have cee : ∀ y : List UInt8, (y == y) = true := by simp
  go_enter Tryd.func10, Tryd.ntmps10
  go_upto_if 9 with fail
  go_cut [0] (fun v0 wx => v0 = .string s2 ∧ w = wx)
  case first =>
    rcases CS.out with ⟨c1, csz, c2⟩ | ⟨c1, c2⟩
    · go_wp2_with fail
      go_meet
      exact ⟨rfl, rfl⟩
    · subst c2
      go_wp2_with fail
      go_meet
      exact ⟨rfl, rfl⟩
  case rest =>
  obtain ⟨rfl, rfl⟩ := hcut
  go_wp2_with (go_at_call 34; refine Calls.mono ((values_calls s2 o w (by omega) HT.out HO.out).mono (fun e w' h => (⟨⟨h.1⟩, h.2⟩ : Aside0 (ValsPost o e w') ∧ Below w.heap.size w w'))) ?_)
  rintro e w1 hv hb1
  have HB1 := Aside0.mk hb1
  clear hb1
  rcases o with _ | l
  · have hv2 : e = .returned (.tuple #[.slice none 0 0, .int .i64 2]) := hv.out
    clear hv
    obtain rfl := hv2
    go_wp2_with (first | (go_at_call 27; refine (Lives3.lives_calls _ (Tabs.below HT.out HB1.out) (Show.Pow.below HP.out HB1.out)).mono ?_; rintro e w9 ⟨rfl, hb9⟩; have HB9 := Aside0.mk (below_step HB1.out hb9); clear hb9))
    go_ret
    exact ⟨rfl, HB9.out⟩
  · have hv2 : ∃ A c, e = .returned (.tuple #[.slice A l.length c, .int .i64 0]) ∧ l.length ≤ c ∧ Kd.C k51 w1 A l.length l := hv.out
    clear hv
    obtain ⟨A, c, rfl, hc, hC⟩ := hv2
    have HC := Aside0.mk hC
    have HCC := Aside0.mk hc
    have HN : Aside0 (strOfNums (kb l) = s2) := ⟨(HL.out l rfl).1⟩
    have HM : Aside0 (∀ v ∈ l, mayV v = true) := ⟨(HL.out l rfl).2.1⟩
    have hn : l.length ≤ 60 := (HL.out l rfl).2.2.1
    have HZ : Aside0 (∀ v ∈ l, v.f2.size ≤ 4096) := ⟨(HL.out l rfl).2.2.2⟩
    clear hC hc HL HO
    go_wp2_with fail
    go_loopw [5] (fun v5 wr => ∃ i : Nat, v5 = .int .i64 (i : Int) ∧ i ≤ l.length ∧ Below w1.heap.size w1 wr) (fun v5 _ => (l.length - intOf v5).toNat)
    case atStart => exact ⟨0, rfl, Nat.zero_le _, Below.refl _ _⟩
    case round =>
      obtain ⟨i, rfl, hi, hb⟩ := hrel
      have HB := Aside0.mk hb
      clear hb
      by_cases hil : i < l.length
      · have d1 : decide ((i : Int) < (l.length : Int)) = true := decide_eq_true (by omega)
        obtain ⟨ad, pp, u, rfl, hpp, hu, q0, q1, q2⟩ := C3 (Kd.C_below HC.out HB.out) i hil
        have HU := Aside0.mk hu
        clear hu
        obtain ⟨f0, f1, f2⟩ := u
        dsimp only at q0 q1 q2
        have HMU : Aside0 (mayB f0 f1 f2 = true) := ⟨HM.out _ (mem_at HU.out)⟩
        have HZU : Aside0 (f2.size ≤ 4096) := ⟨HZ.out _ (mem_at HU.out)⟩
        go_wp2_with (first | (go_at_call 32; refine (May3.refmay_calls f0 f1 f2 true _ (by have := HZU.out; omega) HMU.out).mono ?_; rintro e w5 ⟨rfl, hb5⟩; have HB5 := Aside0.mk (below_step HB.out hb5); clear hb5))
        go_roundw
        case rel => exact ⟨i + 1, by go_num, by omega, HB5.out⟩
        case measure => simp [intOf]; omega
      · have d1 : decide ((i : Int) < (l.length : Int)) = false := decide_eq_false (by omega)
        have HBX := Aside0.mk (below_step HB1.out HB.out)
        go_wp2_with (first | (go_at_call 35; refine (RKey.refkey_calls A c l s2 _ (Kd.C_below HC.out HB.out) HCC.out HZ.out (by omega) HN.out).mono ?_; rintro e w6 ⟨rfl, hb6⟩; have HB6 := Aside0.mk (below_step HBX.out hb6); clear hb6) | (go_at_call 27; refine (Lives3.lives_calls _ (Tabs.below HT.out HB6.out) (Show.Pow.below HP.out HB6.out)).mono ?_; rintro e w9 ⟨rfl, hb9⟩; have HB9 := Aside0.mk (below_step HB6.out hb9); clear hb9))
        go_ret
        exact ⟨rfl, HB9.out⟩
theorem vals_len : ∀ (m : Nat) (s : ByteArray) (l : List V), valsP m s = some l → l.length ≤ m
  | 0, s, l, h => by simp only [valsP, Option.some.injEq] at h; subst h; exact Nat.le_refl _
  | m + 1, s, l, h => by
    rw [valsP] at h
    split at h
    · obtain rfl := Option.some.inj h; exact Nat.zero_le _
    · split at h
      · obtain ⟨q, hq, rfl⟩ := Option.map_eq_some_iff.1 h
        have := vals_len m _ q hq
        simpa using this
      · cases h
theorem may_size {v : V} (h : mayV v = true) : v.f2.size ≤ 4096 := by have := may_kind h; omega
theorem law_calls (a : ByteArray) (w : World) (ha : a.size ≤ reachBytes) (hT : Tabs w) (hP : Pow w) :
    Calls Tryd.prog 10 #[.string a] w fun e w' => e = .returned (.bool true) ∧ Below w.heap.size w w' := by
  obtain ⟨s2, hs, hz⟩ : ∃ s2, ((60 < a.size ∧ a.extract 0 60 = s2) ∨ (a.size ≤ 60 ∧ a = s2)) ∧ s2.size ≤ 60 := by
    by_cases h : 60 < a.size
    · exact ⟨_, .inl ⟨h, rfl⟩, by rw [ByteArray.size_extract]; omega⟩
    · exact ⟨_, .inr ⟨by omega, rfl⟩, by omega⟩
  refine walk a s2 _ w hT hP hs hz rfl fun l hl => ?_
  obtain ⟨e1, e2⟩ := vals_sound _ _ _ (Nat.le_refl _) hl
  exact ⟨by rw [← e1, ofNums_bytesOf], e2, by have := vals_len _ _ _ hl; omega, fun v hv => may_size (e2 v hv)⟩
end Go.Proofs.YtaddlkokencbkaaDoor.RowValueReadsW
