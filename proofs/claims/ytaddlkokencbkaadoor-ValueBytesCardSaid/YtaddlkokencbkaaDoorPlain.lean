/- Plain laws of digits to the base 128 and of bytes as texts: no program in sight. -/
import Derived.Test.YtaddlkokencbkaaDoorExact
namespace Go.Proofs.YtaddlkokencbkaaDoor.Plain
open Go.RowKit Go.Proofs.YtaddlkokencbkaaDoorW.PrintWords Go.Proofs.YtaddlkokencbkaaDoor.Exact

def Bytes (l : List Int) : Prop := ∀ x ∈ l, 0 ≤ x ∧ x < 256
theorem Bytes.append {l m : List Int} (h : Bytes l) (k : Bytes m) : Bytes (l ++ m) := fun x hx => by
  rcases List.mem_append.1 hx with hx | hx
  · exact h x hx
  · exact k x hx
theorem digs_bytes (n : Nat) : Bytes (digs n) := by
  induction n using Nat.strongRecOn with
  | _ n ih =>
    intro x hx
    by_cases hs : n < 128
    · rw [digs_small hs] at hx
      simp at hx
      omega
    · rw [digs_big hs] at hx
      rcases List.mem_cons.1 hx with rfl | hx
      · omega
      · exact ih (n / 128) (by omega) x hx
theorem bytesOf_bytes (s : ByteArray) : Bytes (bytesOf s) := by
  intro x hx
  simp only [bytesOf, List.mem_map] at hx
  obtain ⟨b, _, rfl⟩ := hx
  have := b.toNat_lt
  omega
/-- The digits and what is behind them tell the number and what is behind it. -/
theorem digs_inj : ∀ (a b : Nat) (l m : List Int), digs a ++ l = digs b ++ m → a = b ∧ l = m := by
  intro a
  induction a using Nat.strongRecOn with
  | _ a ih =>
    intro b l m h
    by_cases ha : a < 128
    · by_cases hb : b < 128
      · rw [digs_small ha, digs_small hb] at h
        simp at h
        exact ⟨by omega, h.2⟩
      · rw [digs_small ha, digs_big hb] at h
        simp at h
        omega
    · by_cases hb : b < 128
      · rw [digs_big ha, digs_small hb] at h
        simp at h
        omega
      · rw [digs_big ha, digs_big hb] at h
        simp only [List.cons_append, List.cons.injEq] at h
        obtain ⟨h1, h2⟩ := h
        obtain ⟨h3, h4⟩ := ih (a / 128) (by omega) (b / 128) l m h2
        exact ⟨by omega, h4⟩
theorem digs_eq {a b : Nat} (h : digs a = digs b) : a = b := (digs_inj a b [] [] (by simpa using h)).1
theorem digs_mono : ∀ (a b : Nat), a ≤ b → (digs a).length ≤ (digs b).length := by
  intro a
  induction a using Nat.strongRecOn with
  | _ a ih =>
    intro b h
    by_cases ha : a < 128
    · rw [digs_small ha]
      have := digs_pos b
      simp
      omega
    · rw [digs_big ha, digs_big (n := b) (by omega)]
      have := ih (a / 128) (by omega) (b / 128) (by omega)
      simp
      omega
theorem bytes_eq_map {l : List Int} (h : Bytes l) : (l.map fun n => (UInt8.ofNat n.toNat)).map (fun b => (b.toNat : Int)) = l := by
  rw [List.map_map]
  conv => rhs; rw [← List.map_id l]
  refine List.map_congr_left fun x hx => ?_
  have := h x hx
  simp only [Function.comp, id]
  rw [UInt8.toNat_ofNat']
  omega
theorem strOf_toList (l : List Int) : (strOfNums l).toList = l.map fun n => UInt8.ofNat n.toNat := by
  rw [ByteArray.toList_eq, strOfNums_data]
theorem strOf_inj {a b : List Int} (ha : Bytes a) (hb : Bytes b) (h : (strOfNums a).toList = (strOfNums b).toList) : a = b := by
  rw [strOf_toList, strOf_toList] at h
  rw [← bytes_eq_map ha, ← bytes_eq_map hb, h]
theorem str_beq {a b : List Int} (ha : Bytes a) (hb : Bytes b) : ((strOfNums a).toList == (strOfNums b).toList) = decide (a = b) := by
  by_cases h : a = b
  · subst h; simp
  · have : ¬ (strOfNums a).toList = (strOfNums b).toList := fun e => h (strOf_inj ha hb e)
    simp [h, this]
theorem ofNums_bytesOf (s : ByteArray) : (strOfNums (bytesOf s)) = s := by
  apply ByteArray.ext
  apply Array.toList_inj.1
  rw [strOfNums_data, bytesOf, List.map_map]
  conv => rhs; rw [← List.map_id s.data.toList]
  refine List.map_congr_left fun x _ => ?_
  simp
theorem bytesOf_ofNums {l : List Int} (h : Bytes l) : bytesOf (strOfNums l) = l := by
  rw [bytesOf, strOfNums_data]
  exact bytes_eq_map h
end Go.Proofs.YtaddlkokencbkaaDoor.Plain
