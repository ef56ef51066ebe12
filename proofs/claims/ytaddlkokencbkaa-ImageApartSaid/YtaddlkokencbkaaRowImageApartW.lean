/- The walk of the law ImageApart with its answer: two rows of a schema have the same bytes just if they are the same, and no row's bytes begin another one's. No condition. -/
import Derived.Test.YtaddlkokencbkaaQ6
import Derived.Test.YtaddlkokencbkaaInj
namespace Go.Proofs.Ytaddlkokencbkaa.RowImageApartW
open Go.RowKit Go.Proofs.YtaddlkokencbkaaW.PrintWords Go.Proofs.YtaddlkokencbkaaW.PrintLast Go.Proofs.YtaddlkokencbkaaW.PrintMore Go.Proofs.Ytaddlkokencbkaa.Q Go.Proofs.Ytaddlkokencbkaa.Plain Go.Proofs.Ytaddlkokencbkaa.Exact Go.Proofs.Ytaddlkokencbkaa.OpenA Go.Proofs.Ytaddlkokencbkaa.Img Go.Proofs.Ytaddlkokencbkaa.Put Go.Proofs.Ytaddlkokencbkaa.Inj
set_option linter.unusedVariables false

theorem take_eq {a b : List Int} (hb : Bytes b) (ha : Bytes a) (h : ((strOfNums b).extract 0 (strOfNums a).size).toList = (strOfNums a).toList) : b.take a.length = a := by
  rw [ByteArray.toList_eq, ByteArray.data_extract, Array.toList_extract, strOf_toList, strOfNums_size] at h
  simp only [List.extract_eq_take_drop, Nat.sub_zero, List.drop_zero] at h
  rw [strOfNums_data, ← List.map_take] at h
  have hbt : Bytes (b.take a.length) := fun x hx => hb x (List.mem_of_mem_take hx)
  have e := congrArg (List.map fun (x : UInt8) => (x.toNat : Int)) h
  rw [bytes_eq_map hbt, bytes_eq_map ha] at e
  exact e

theorem law_f (l : List S67) (k : Int) (l1 l2 : List S48) (ok : ∀ y ∈ l, OkC y) (rk : RangeI k) (ok1 : ∀ y ∈ l1, OkV y) (ok2 : ∀ y ∈ l2, OkV y) (hl : l.length ≤ 9223372036854775807) : ∃ K, pantographlaw05_ImageApart.f K l k l1 l2 = some true := by
  obtain ⟨cs, keys, ⟨K1, h1⟩, hg⟩ := good_f l ok hl k rk
  have hfew := hg.few
  have hsome := hg.some_
  obtain ⟨K2, h2⟩ := row_f cs keys l1 (by omega)
  obtain ⟨K3, h3⟩ := row_f cs keys l2 (by omega)
  have p1 := rowOf_length cs l1 cs.length
  have p2 := rowOf_length cs l2 cs.length
  obtain ⟨K4, h4⟩ := write_f (rowOf cs l1 cs.length) (rowOf_small hg ok1) (by omega) (by omega) [] (by simp) cs keys
  obtain ⟨K5, h5⟩ := write_f (rowOf cs l2 cs.length) (rowOf_small hg ok2) (by omega) (by omega) [] (by simp) cs keys
  obtain ⟨b, ⟨K6, h6⟩, hb⟩ := same_f (rowOf cs l1 cs.length) (rowOf cs l2 cs.length) (by omega) (by omega)
  obtain ⟨K7, h7⟩ := lives_f
  have inj := rowB_inj cs (rowOf cs l1 cs.length) (rowOf cs l2 cs.length) hg.kinds p1 p2 (rowOf_fit hg ok1) (rowOf_fit hg ok2)
  have b1 := rowB_bytes (rowOf cs l1 cs.length) (by omega)
  have b2 := rowB_bytes (rowOf cs l2 cs.length) (by omega)
  obtain ⟨K, hK⟩ : ∃ K, K = K1 + K2 + K3 + K4 + K5 + K6 + K7 := ⟨_, rfl⟩
  refine ⟨K, ?_⟩
  have e1 := h1 K (by omega)
  have e2 := h2 K (by omega)
  have e3 := h3 K (by omega)
  have e4 := h4 K (by omega)
  have e5 := h5 K (by omega)
  have e6 := h6 K (by omega)
  have e7 := h7 K (by omega)
  dsimp only at e1 e2 e3 e4 e5 e6 e7
  rw [List.nil_append] at e4 e5
  unfold pantographlaw05_ImageApart.f
  rw [e1, Option.bind_some, e2, Option.bind_some, e3, Option.bind_some, e4, Option.bind_some, e5, Option.bind_some]
  generalize rowOf cs l1 cs.length = p at *
  generalize rowOf cs l2 cs.length = q at *
  have hcore : (((strOfNums (rowB p)).toList == (strOfNums (rowB q)).toList) == b) = true := by
    rw [str_beq b1 b2, beq_iff_eq, Bool.eq_iff_iff, decide_eq_true_iff, hb]
    exact ⟨fun h => (inj [] [] (by simpa using h)).1, fun h => by rw [h]⟩
  by_cases hs : ((strOfNums (rowB p)).size : Int) < ((strOfNums (rowB q)).size : Int)
  · rw [if_pos hs, if_pos (by omega), if_pos (by omega), e6, Option.bind_some, if_pos hcore, if_neg ?_, e7, Option.bind_some]
    intro hbeg
    have ht := take_eq b2 b1 hbeg
    have := (inj ((rowB q).drop (rowB p).length) [] (by
      have e := List.take_append_drop (rowB p).length (rowB q)
      rw [ht] at e
      rw [e, List.append_nil])).1
    subst this
    omega
  · rw [if_neg hs, e6, Option.bind_some, if_pos hcore, e7, Option.bind_some]

theorem law_calls (A : Option Addr) (c : Nat) (l : List S67) (k : Int) (A1 : Option Addr) (c1 : Nat) (l1 : List S48) (A2 : Option Addr) (c2 : Nat) (l2 : List S48) (w : World) (hr : Kd.C k67 w A l.length l) (hc : l.length ≤ c) (ok : ∀ y ∈ l, OkC y) (rk : RangeI k)
    (hr1 : Kd.C k48 w A1 l1.length l1) (hc1 : l1.length ≤ c1) (ok1 : ∀ y ∈ l1, OkV y) (hr2 : Kd.C k48 w A2 l2.length l2) (hc2 : l2.length ≤ c2) (ok2 : ∀ y ∈ l2, OkV y) :
    Calls Try.prog 6 #[.agg #[.slice A l.length c, .int .i64 k], .slice A1 l1.length c1, .slice A2 l2.length c2] w fun e w' => e = .returned (.bool true) ∧ Below w.heap.size w w' := by
  obtain ⟨K, h⟩ := law_f l k l1 l2 ok rk ok1 ok2 hr.2.1
  exact pantographlaw05_ImageApart.calls K A c l k A1 c1 l1 A2 c2 l2 true w hr hc hr1 hc1 hr2 hc2 h
end Go.Proofs.Ytaddlkokencbkaa.RowImageApartW
