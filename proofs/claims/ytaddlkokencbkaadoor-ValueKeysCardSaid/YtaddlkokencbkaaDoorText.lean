/- value.text, by hand: the text at the beginning of a key, and what is left. -/
import Derived.Test.YtaddlkokencbkaaDoorBld
import Derived.Test.YtaddlkokencbkaaDoorWMore
import Derived.Deep.RegionWith
namespace Go.Proofs.YtaddlkokencbkaaDoor.Text
open Go.RowKit Go.Proofs.YtaddlkokencbkaaDoorW.PrintWords Go.Proofs.YtaddlkokencbkaaDoorW.PrintLast Go.Proofs.YtaddlkokencbkaaDoorW.PrintMore Go.Proofs.YtaddlkokencbkaaDoor.Bld
set_option linter.unusedVariables false
set_option linter.unusedSimpArgs false
/-- The text at the beginning of a key, and what is left. -/
def textP : List UInt8 → Option (List UInt8 × List UInt8)
  | c :: d :: r =>
    if c = 0 then (if d = 1 then some ([], r) else if d = 255 then (textP r).map fun p => (0 :: p.1, p.2) else none)
    else (textP (d :: r)).map fun p => (c :: p.1, p.2)
  | _ => none
termination_by l => l.length
theorem textP_short {l : List UInt8} (h : l.length ≤ 1) : textP l = none := by
  match l, h with
  | [], _ => rw [textP]; simp
  | [_], _ => rw [textP]; simp
theorem textP_end {l : List UInt8} {i : Nat} (h : i + 1 < l.length) (h0 : l[i] = 0) (h1 : l[i + 1] = 1) : textP (l.drop i) = some ([], l.drop (i + 2)) := by
  rw [List.drop_eq_getElem_cons (by omega : i < l.length), List.drop_eq_getElem_cons h, textP, h0, h1]
  simp
theorem textP_esc {l : List UInt8} {i : Nat} (h : i + 1 < l.length) (h0 : l[i] = 0) (h1 : l[i + 1] = 255) : textP (l.drop i) = (textP (l.drop (i + 2))).map fun p => (0 :: p.1, p.2) := by
  rw [List.drop_eq_getElem_cons (by omega : i < l.length), List.drop_eq_getElem_cons h, textP, h0, h1]
  simp
theorem textP_bad {l : List UInt8} {i : Nat} (h : i + 1 < l.length) (h0 : l[i] = 0) (h1 : l[i + 1] ≠ 1) (h2 : l[i + 1] ≠ 255) : textP (l.drop i) = none := by
  rw [List.drop_eq_getElem_cons (by omega : i < l.length), List.drop_eq_getElem_cons h, textP, h0]
  simp [h1, h2]
theorem textP_one {l : List UInt8} {i : Nat} (h : i + 1 < l.length) (h0 : l[i] ≠ 0) : textP (l.drop i) = (textP (l.drop (i + 1))).map fun p => (l[i] :: p.1, p.2) := by
  rw [List.drop_eq_getElem_cons (by omega : i < l.length), List.drop_eq_getElem_cons h, textP]
  simp [h0]
/-- What value.text answers. -/
def textR (s : ByteArray) : Value := match textP s.data.toList with
  | none => .tuple #[.string ⟨#[]⟩, .string ⟨#[]⟩, .bool false]
  | some (t, r) => .tuple #[.string ⟨t.toArray⟩, .string ⟨r.toArray⟩, .bool true]
/-- What has been read of s up to i. -/
def Got (s : ByteArray) (i : Nat) (acc : List UInt8) : Prop := textP s.data.toList = (textP (s.data.toList.drop i)).map (fun p => (acc ++ p.1, p.2)) ∧ acc.length ≤ i
theorem got_none {s : ByteArray} {i : Nat} {acc : List UInt8} (h : Got s i acc) (hn : textP (s.data.toList.drop i) = none) : textR s = .tuple #[.string ⟨#[]⟩, .string ⟨#[]⟩, .bool false] := by
  unfold textR
  rw [h.1, hn]
  rfl
theorem got_some {s : ByteArray} {i : Nat} {acc r : List UInt8} (h : Got s i acc) (hn : textP (s.data.toList.drop i) = some ([], r)) : textR s = .tuple #[.string ⟨acc.toArray⟩, .string ⟨r.toArray⟩, .bool true] := by
  unfold textR
  rw [h.1, hn]
  simp
theorem got_put {s : ByteArray} {i j : Nat} {acc : List UInt8} {c : UInt8} (h : Got s i acc) (hij : i < j) (hn : textP (s.data.toList.drop i) = (textP (s.data.toList.drop j)).map fun p => (c :: p.1, p.2)) : Got s j (acc ++ [c]) := by
  refine ⟨?_, by rw [List.length_append]; have := h.2; simp; omega⟩
  rw [h.1, hn, Option.map_map]
  congr 1
  funext p
  simp
theorem extract_drop (s : ByteArray) (n : Nat) : s.extract n s.size = ⟨(s.data.toList.drop n).toArray⟩ := by
  apply ByteArray.ext
  apply Array.ext'
  rw [ByteArray.data_extract, Array.toList_extract]
  simp [List.extract_eq_take_drop]
  rw [show s.size = s.data.toList.length by rw [Array.length_toList]; rfl]
  rw [List.take_of_length_le (by rw [List.length_drop]; omega)]
theorem bd_drew {b : Nat} {l : List UInt8} {w : World} (h : Bd b l w) : Bd b l w.drew := by
  rcases h with h | h
  · exact .inl h
  · exact .inr h
set_option maxHeartbeats 4000000 in
set_option maxRecDepth 100000 in
theorem text_calls (s : ByteArray) (w : World) (hs : s.size ≤ 100000) :
    Calls Tryd.prog 79 #[.string s] w fun e w' => e = .returned (textR s) ∧ Below w.heap.size w w' := by
  have hlen : s.data.toList.length = s.size := by rw [Array.length_toList]; rfl
  have HLEN := Aside0.mk hlen
  clear hlen
  go_enter Tryd.func79, Tryd.ntmps79
  go_wp2
  go_loopw [6] (fun v6 wr => ∃ (i : Nat) (acc : List UInt8), v6 = .int .i64 (i : Int) ∧ i ≤ s.size + 1 ∧ Got s i acc ∧ Bd w.heap.size acc wr ∧ Below w.heap.size w wr) (fun v6 _ => (s.size + 1 - intOf v6).toNat)
  case atStart =>
    exact ⟨0, [], rfl, Nat.zero_le _, ⟨by rw [List.drop_zero]; cases textP s.data.toList <;> simp, Nat.le_refl _⟩, bd_new w, below_alloc (Below.refl _ _) _⟩
  case round =>
    obtain ⟨i, acc, rfl, hi, hg, hd, hb⟩ := hrel
    have HG := Aside0.mk hg
    have HD := Aside0.mk hd
    have HB := Aside0.mk hb
    clear hg hd hb
    by_cases hil : i + 1 < s.size
    · have c1 : decide ((i : Int) + 1 < (s.size : Int)) = true := decide_eq_true (by omega)
      have hdl : i + 1 < s.data.toList.length := by rw [HLEN.out]; exact hil
      obtain ⟨c, hc⟩ : ∃ c, s[i]'(by omega) = c := ⟨_, rfl⟩
      obtain ⟨d, hd⟩ : ∃ d, s[i + 1]'(by omega) = d := ⟨_, rfl⟩
      have gc : s.data.toList[i]'(by omega) = c := by rw [← hc]; simp; rfl
      have gd : s.data.toList[i + 1]'(by omega) = d := by rw [← hd]; simp; rfl
      have GC := Aside0.mk gc
      have GD := Aside0.mk gd
      clear gc gd
      have hi1 : i < s.size := by omega
      have hi2 : (i : Int) < (s.size : Int) := by omega
      have hi3 : (i : Int) + 1 < (s.size : Int) := by omega
      have hi4 : ((i : Int) + 1).toNat = i + 1 := by omega
      have cl := c.toNat_lt
      have dl := d.toNat_lt
      by_cases hc0 : c = 0
      · subst hc0
        have hcc : (((0 : UInt8).toNat : Int) != 0) = false := rfl
        by_cases hd1 : d = 1
        · subst hd1
          have hdd : (((1 : UInt8).toNat : Int) == 1) = true := rfl
          have E : Aside0 (textR s = .tuple #[.string ⟨acc.toArray⟩, .string (s.extract (i + 2) s.size), .bool true]) := ⟨by
            rw [got_some HG.out (textP_end hdl (by rw [GC.out]) (by rw [GD.out])), extract_drop]⟩
          have hj1 : (i : Int) + 2 ≤ (s.size : Int) := by omega
          have hj2 : ((i : Int) + 2).toNat = i + 2 := by omega
          have hj3 : i + 2 ≤ s.size := by omega
          have hj0 : 0 ≤ (i : Int) + 2 := by omega
          have hw2 : IntKind.i64.wrap ((i : Int) + 2) = (i : Int) + 2 := by rw [IntKind.wrap_i64]; omega
          go_wp2
          go_region_with (go_at_call 94; refine (string_calls _ acc _ (bd_drew HD.out) HB.out.size).mono ?_; rintro e w1 ⟨rfl, hb1⟩; have HB1 := Aside0.mk (HB.out.drew.trans hb1); clear hb1)
          all_goals
            go_wp2
            go_ret3
            exact ⟨by rw [E.out]; rfl, HB1.out⟩
        · have hdd : ((d.toNat : Int) == 1) = false := by
            rw [beq_eq_false_iff_ne]; intro e; apply hd1; apply UInt8.toNat_inj.1; have : d.toNat = 1 := by omega
            rw [this]; rfl
          by_cases hd2 : d = 255
          · subst hd2
            have hde : (((255 : UInt8).toNat : Int) == 255) = true := rfl
            have HN : Aside0 (Got s (i + 2) (acc ++ [0])) := ⟨got_put HG.out (by omega) (textP_esc hdl (by rw [GC.out]) (by rw [GD.out]))⟩
            go_wp2_with (go_at_call 93; refine (write_calls _ acc 0 _ _ HD.out (by have := HG.out.2; omega) HB.out.size rfl).mono ?_)
            rintro e w1 ⟨rfl, hd1, hb1⟩
            have HD1 := Aside0.mk hd1
            have HB1 := Aside0.mk hb1
            clear hd1 hb1
            go_wp2
            go_roundw
            case rel => exact ⟨i + 2, acc ++ [0], by go_num, by omega, HN.out, HD1.out, HB.out.trans HB1.out⟩
            case measure => simp [intOf]; omega
          · have hde : ((d.toNat : Int) == 255) = false := by
              rw [beq_eq_false_iff_ne]; intro e; apply hd2; apply UInt8.toNat_inj.1; have : d.toNat = 255 := by omega
              rw [this]; rfl
            have E : Aside0 (textR s = .tuple #[.string ⟨#[]⟩, .string ⟨#[]⟩, .bool false]) := ⟨got_none HG.out (textP_bad hdl (by rw [GC.out]) (by rw [GD.out]; exact hd1) (by rw [GD.out]; exact hd2))⟩
            go_wp2
            go_ret3
            exact ⟨by rw [E.out]; rfl, HB.out⟩
      · have hcc : ((c.toNat : Int) != 0) = true := by
          rw [bne_iff_ne]; intro e; apply hc0; apply UInt8.toNat_inj.1; have : c.toNat = 0 := by omega
          rw [this]; rfl
        have HN : Aside0 (Got s (i + 1) (acc ++ [c])) := ⟨got_put HG.out (by omega) (by rw [textP_one hdl (by rw [GC.out]; exact hc0), GC.out])⟩
        go_wp2_with (go_at_call 93; refine (write_calls _ acc c _ _ HD.out (by have := HG.out.2; omega) HB.out.size rfl).mono ?_)
        rintro e w1 ⟨rfl, hd1, hb1⟩
        have HD1 := Aside0.mk hd1
        have HB1 := Aside0.mk hb1
        clear hd1 hb1
        go_wp2
        go_roundw
        case rel => exact ⟨i + 1, acc ++ [c], by go_num, by omega, HN.out, HD1.out, HB.out.trans HB1.out⟩
        case measure => simp [intOf]; omega
    · have c1 : decide ((i : Int) + 1 < (s.size : Int)) = false := decide_eq_false (by omega)
      have E : Aside0 (textR s = .tuple #[.string ⟨#[]⟩, .string ⟨#[]⟩, .bool false]) := ⟨got_none HG.out (textP_short (by rw [List.length_drop, HLEN.out]; omega))⟩
      go_wp2
      go_ret3
      exact ⟨by rw [E.out]; rfl, HB.out⟩
end Go.Proofs.YtaddlkokencbkaaDoor.Text
