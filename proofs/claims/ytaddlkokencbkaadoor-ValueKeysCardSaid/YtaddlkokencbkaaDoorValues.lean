/- value.Values, by hand: a key's values. -/
import Derived.Test.YtaddlkokencbkaaDoorOne
import Derived.Test.YtaddlkokencbkaaDoorQ0
namespace Go.Proofs.YtaddlkokencbkaaDoor.Values
open Go.RowKit Go.Proofs.YtaddlkokencbkaaDoorW.PrintWords Go.Proofs.YtaddlkokencbkaaDoorW.PrintLast Go.Proofs.YtaddlkokencbkaaDoorW.PrintMore Go.Proofs.YtaddlkokencbkaaDoor.Q Go.Proofs.YtaddlkokencbkaaDoor.Text Go.Proofs.YtaddlkokencbkaaDoor.One Go.Proofs.YtaddlkokencbkaaDoor.May Go.Proofs.YtaddlkokencbkaaDoor.Shelf Go.Proofs.YtaddlkokencbkaaDoor.VKeyW
set_option linter.unusedVariables false
set_option linter.unusedSimpArgs false
theorem textP_rest : ∀ (m : Nat) (l t r : List UInt8), l.length ≤ m → textP l = some (t, r) → r.length ≤ l.length
  | m, [], _, _, _, h => by rw [textP_short (by simp)] at h; cases h
  | m, [_], _, _, _, h => by rw [textP_short (by simp)] at h; cases h
  | 0, _ :: _ :: _, _, _, hl, _ => by simp at hl
  | m + 1, c :: d :: l, t, r, hl, h => by
    rw [textP] at h
    have hl2 : (d :: l).length ≤ m := by simpa using hl
    split at h
    · split at h
      · simp only [Option.some.injEq, Prod.mk.injEq] at h
        rw [← h.2]
        simp only [List.length_cons]
        omega
      · split at h
        · obtain ⟨p, hp, e⟩ := Option.map_eq_some_iff.1 h
          simp only [Prod.mk.injEq] at e
          have := textP_rest m l p.1 p.2 (by simp at hl2; omega) hp
          rw [← e.2]
          simp only [List.length_cons]
          omega
        · cases h
    · obtain ⟨p, hp, e⟩ := Option.map_eq_some_iff.1 h
      simp only [Prod.mk.injEq] at e
      have := textP_rest m (d :: l) p.1 p.2 hl2 hp
      rw [← e.2]
      simp only [List.length_cons] at this ⊢
      omega
theorem oneM_rest (k : UInt8) (r : ByteArray) : (oneM k r).2.2.1.size ≤ r.size := by
  have hl : r.data.toList.length = r.size := by rw [Array.length_toList]; rfl
  unfold oneM
  split
  · split
    · exact Nat.le_refl _
    · simp only [ByteArray.size_extract]; omega
  · split
    · split
      · simp only [ByteArray.size_extract]; omega
      · exact Nat.le_refl _
    · split
      · cases h : textP r.data.toList with
        | none => exact Nat.zero_le _
        | some p =>
          have := textP_rest _ _ p.1 p.2 (Nat.le_refl _) h
          show (Array.size _) ≤ _
          simp
          omega
      · exact Nat.le_refl _
/-- The first byte. -/
def hd (s : ByteArray) : UInt8 := s[0]?.getD 0
/-- What value.one tells of a text that is not empty. -/
def oneV (s : ByteArray) : V := ⟨((hd s).toNat : Int), (oneM (hd s) (s.extract 1 s.size)).1, (oneM (hd s) (s.extract 1 s.size)).2.1⟩
def oneRest (s : ByteArray) : ByteArray := (oneM (hd s) (s.extract 1 s.size)).2.2.1
def oneIs (s : ByteArray) : Bool := (oneM (hd s) (s.extract 1 s.size)).2.2.2 && mayV (oneV s)
theorem rest_lt (s : ByteArray) (h : 0 < s.size) : (oneRest s).size < s.size := by
  have := oneM_rest (hd s) (s.extract 1 s.size)
  rw [ByteArray.size_extract] at this
  unfold oneRest
  omega
/-- A key's values. -/
def valsP : Nat → ByteArray → Option (List V)
  | 0, _ => some []
  | m + 1, s => if s.size = 0 then some [] else if oneIs s = true then (valsP m (oneRest s)).map (oneV s :: ·) else none
theorem one_c (s : ByteArray) (w : World) (hs : s.size ≤ 100000) (hz : 0 < s.size) (a b : Int) (c rest : ByteArray) (is : Bool) (hT : Tabs w) (h1 : oneV s = ⟨a, b, c⟩) (h2 : oneRest s = rest) (h3 : oneIs s = is) :
    Calls Tryd.prog 58 #[.string s] w fun e w' => e = .returned (.tuple #[.agg #[.int .i64 a, .int .i64 b, .string c], .string rest, .bool is]) ∧ Below w.heap.size w w' := by
  have hk : s[0]? = some (hd s) := by
    unfold hd
    rw [ByteArray.getElem?_lt' s 0 hz]
    rfl
  have e1 : ((hd s).toNat : Int) = a := congrArg (fun v : V => v.f0) h1
  have e2 : (oneM (hd s) (s.extract 1 s.size)).1 = b := congrArg (fun v : V => v.f1) h1
  have e3 : (oneM (hd s) (s.extract 1 s.size)).2.1 = c := congrArg (fun v : V => v.f2) h1
  have := one_calls (hd s) (s.extract 1 s.size) s w hs hk rfl (oneM (hd s) (s.extract 1 s.size)).1 (oneM (hd s) (s.extract 1 s.size)).2.1 (oneM (hd s) (s.extract 1 s.size)).2.2.1 (oneM (hd s) (s.extract 1 s.size)).2.2.2 rfl hT
  unfold oneRest at h2
  unfold oneIs mayV at h3
  rw [h1] at h3
  rw [e1, e2, e3, h2] at this
  rw [← h3]
  exact this
/-- What value.Values answers. -/
def ValsPost (o : Option (List V)) (e : Ending) (w' : World) : Prop := match o with
  | none => e = .returned (.tuple #[.slice none 0 0, .int .i64 2])
  | some l => ∃ A c, e = .returned (.tuple #[.slice A l.length c, .int .i64 0]) ∧ l.length ≤ c ∧ Kd.C k51 w' A l.length l
def RelV (w : World) (s : ByteArray) (v0 v4 : Value) (wr : World) : Prop :=
  ∃ (cur : ByteArray) (acc : List V) (m : Nat), v0 = .string cur ∧ cur.size ≤ m ∧ m + acc.length ≤ s.size ∧ valsP s.size s = (valsP m cur).map (acc ++ ·) ∧ Kd.R k51 51 wr w.heap.size (fun _ => True) v4 acc ∧ Below w.heap.size w wr
def sizeOfS : Value → Nat
  | .string s => s.size
  | _ => 0
set_option maxHeartbeats 4000000 in
set_option maxRecDepth 100000 in
theorem values_calls (s : ByteArray) (o : Option (List V)) (w : World) (hs : s.size ≤ 100000) (hT : Tabs w) (ho : valsP s.size s = o) :
    Calls Tryd.prog 34 #[.string s] w fun e w' => ValsPost o e w' ∧ Below w.heap.size w w' := by
  have HO := Aside0.mk ho
  have HT := Aside0.mk hT
  clear ho hT
  go_enter Tryd.func34, Tryd.ntmps34
  go_wp2
  go_loopw [0, 4] (fun v0 v4 wr => RelV w s v0 v4 wr) (fun v0 _ _ => sizeOfS v0)
  case atStart => exact ⟨s, [], s.size, rfl, Nat.le_refl _, by simp, by cases valsP s.size s <;> simp, Kd.R_nil _ _ _ _ _, Below.refl _ _⟩
  case round =>
    obtain ⟨cur, acc, m, rfl, hm, hl, hv, hR, hb⟩ := hrel
    have HV := Aside0.mk hv
    have HR := Aside0.mk hR
    have HB := Aside0.mk hb
    have HM := Aside0.mk hm
    have HL := Aside0.mk hl
    clear hv hR hb hm hl
    by_cases hz : cur.size = 0
    · have he : (cur.toList == ([] : List UInt8)) = true := by rw [toList_nil]; simpa using hz
      have E : Aside0 (o = some acc) := ⟨by
        rw [← HO.out, HV.out]
        cases m with
        | zero => simp [valsP]
        | succ m => rw [valsP, if_pos hz]; simp⟩
      obtain ⟨A, c, rfl, hc, hC⟩ := Kd.R_reads HR.out
      have HC := Aside0.mk hC
      have HCC := Aside0.mk hc
      clear hC hc
      go_wp2
      go_ret2
      refine ⟨?_, HB.out⟩
      rw [E.out]
      exact ⟨A, c, rfl, HCC.out, HC.out⟩
    · have he : (cur.toList == ([] : List UInt8)) = false := by rw [toList_nil]; simpa using hz
      obtain ⟨m, rfl⟩ : ∃ q, m = q + 1 := ⟨m - 1, by have := HM.out; omega⟩
      have hz0 : 0 < cur.size := by omega
      have hcs : cur.size ≤ 100000 := by have := HM.out; have := HL.out; omega
      obtain ⟨⟨a, b, c⟩, h1⟩ : ∃ v, oneV cur = v := ⟨_, rfl⟩
      obtain ⟨rest, h2⟩ : ∃ v, oneRest cur = v := ⟨_, rfl⟩
      obtain ⟨is, h3⟩ : ∃ v, oneIs cur = v := ⟨_, rfl⟩
      have H1 := Aside0.mk h1
      have H2 := Aside0.mk h2
      have H3 := Aside0.mk h3
      have HLT : Aside0 (rest.size < cur.size) := ⟨by rw [← h2]; exact rest_lt cur hz0⟩
      clear h1 h2 h3
      go_wp2_with (go_at_call 58; refine (one_c cur wr hcs hz0 a b c rest is (Tabs.below HT.out HB.out) H1.out H2.out H3.out).mono ?_)
      rintro e w1 ⟨rfl, hb1⟩
      have HB1 := Aside0.mk (below_step HB.out hb1)
      have HR1 := Aside0.mk (Kd.R_below HR.out hb1)
      clear hb1
      cases is with
      | false =>
        have E : Aside0 (o = none) := ⟨by
          rw [← HO.out, HV.out, valsP, if_neg hz, H3.out]
          rfl⟩
        go_wp2
        go_ret2
        refine ⟨?_, ?_⟩
        · rw [E.out]; rfl
        · first | exact HB1.out | exact below_alloc HB1.out _
      | true =>
        have E : Aside0 (valsP s.size s = (valsP m rest).map ((acc ++ [(⟨a, b, c⟩ : V)]) ++ ·)) := ⟨by
          rw [HV.out, valsP, if_neg hz, H3.out, if_pos rfl, Option.map_map, H1.out, H2.out]
          congr 1
          funext x
          simp⟩
        go_upto_region 6 with fail
        have q0 := (blk_cell (blk_new w1 (blkV a b c)) 0).trans rfl
        have q1 := (blk_cell (blk_new w1 (blkV a b c)) 1).trans rfl
        have q2 := (blk_cell (blk_new w1 (blkV a b c)) 2).trans rfl
        have HB2 := Aside0.mk (below_alloc HB1.out (blkV a b c))
        have HR2 := Aside0.mk (Kd.R_alloc HR1.out (blkV a b c))
        change Code.wp _ _ _ _ (w1.alloc (blkV a b c))
        generalize w1.alloc (blkV a b c) = W3 at q0 q1 q2 HB2 HR2 ⊢
        generalize w1.heap.size = g at q0 q1 q2 ⊢
        go_wp2_with (at_builtin; refine Kd.R_append k51 (w0 := w) w.heap.size rfl (.tmp 18) (.tmp 20) 34 51 (.agg #[(.int .i64 0), (.int .i64 0), (.string ⟨#[]⟩)]) 32 rfl Tryd.underlying34 info51 rfl (by decide) (by omega) u4 acc (⟨a, b, c⟩ : V) [.int .i64 a, .int .i64 b, .string c] (fun _ => True) (fun _ => False) rfl rfl ?aP (fun _ hk => hk.elim) ?aF ?aO ?aB ?aS ?aL ?_)
        case aP => exact k51_mkM _ _ _ (⟨a, b, c⟩ : V)
        case aF => exact fun _ _ => trivial
        case aO => first | exact HR2.out | exact Kd.R_alloc HR2.out _
        case aB => first | exact HB2.out | exact below_alloc HB2.out _
        case aS => first | exact below_size HB2.out | exact below_size (below_alloc HB2.out _)
        case aL => have := HL.out; omega
        intro v5 w9 ho hb _ _
        have HR9 := Aside0.mk ho
        have HB9 := Aside0.mk hb
        clear ho hb
        go_wp2
        go_roundw
        case rel => exact ⟨rest, acc ++ [⟨a, b, c⟩], m, rfl, by have := HLT.out; have := HM.out; omega, by have := HL.out; simp; omega, E.out, HR9.out, HB9.out⟩
        case measure => exact HLT.out
end Go.Proofs.YtaddlkokencbkaaDoor.Values
