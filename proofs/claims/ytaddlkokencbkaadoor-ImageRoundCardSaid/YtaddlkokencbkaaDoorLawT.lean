/- image.Read and image.ReadKey, told by one answer; whether two rows are the same. -/
import Derived.Test.YtaddlkokencbkaaDoorTake
import Derived.Test.YtaddlkokencbkaaDoorGood
import Derived.Test.YtaddlkokencbkaaDoorImg
import Derived.Test.YtaddlkokencbkaaDoorQ4
namespace Go.Proofs.YtaddlkokencbkaaDoor.Law5
open Go.RowKit Go.Proofs.YtaddlkokencbkaaDoorW.PrintWords Go.Proofs.YtaddlkokencbkaaDoorW.PrintLast Go.Proofs.YtaddlkokencbkaaDoorW.PrintMore Go.Proofs.YtaddlkokencbkaaDoor.Q Go.Proofs.YtaddlkokencbkaaDoor.Exact Go.Proofs.YtaddlkokencbkaaDoor.Shelf Go.Proofs.YtaddlkokencbkaaDoor.May Go.Proofs.YtaddlkokencbkaaDoor.Rd Go.Proofs.YtaddlkokencbkaaDoor.RdN Go.Proofs.YtaddlkokencbkaaDoor.Fits Go.Proofs.YtaddlkokencbkaaDoor.Bits Go.Proofs.YtaddlkokencbkaaDoor.Row Go.Proofs.YtaddlkokencbkaaDoor.Take
set_option linter.unusedVariables false
set_option linter.unusedSimpArgs false
def TP (w : World) (g : Nat) (ok : Bool) (vs : List V) (lf : List Int) (r : Ending) (w' : World) : Prop := (∃ A l c e, Rd w' g A l c e ∧ (ok = true → l = lf)) ∧ Off g w w' ∧ TakeR ok vs r w'
set_option maxHeartbeats 2000000 in
theorem iread_calls (w : World) (g : Nat) (A0 : Option Addr) (l0 : List Int) (c0 : Nat) (e0 : Int) (h : Rd w g A0 l0 c0 e0) (hb : ∀ x ∈ l0, 0 ≤ x ∧ x < 256) (B : Option Addr) (d : Nat) (cs : List Col) (a : Int) (hC : Kd.C k69 w B cs.length cs) (hd : cs.length ≤ d)
    (h1 : 1 ≤ cs.length) (h8 : cs.length ≤ 8) (hk : ∀ c ∈ cs, 1 ≤ c.f1 ∧ c.f1 ≤ 4) (hT : ∀ W, Off g w W → Tabs W) (ok : Bool) (vs : List V) (lf : List Int) (hok : okB cs (byteV l0 e0) (byteL l0 e0) (byteE l0 e0) = ok) (hvs : (rowR cs (byteV l0 e0) (byteL l0 e0) (byteE l0 e0)).1 = vs) (hlf : (rowR cs (byteV l0 e0) (byteL l0 e0) (byteE l0 e0)).2.1 = lf) :
    Calls Tryd.prog 15 #[.pointer (some ⟨g, 0, none⟩), .agg #[.slice B cs.length d, .int .i64 a]] w fun r w' => TP w g ok vs lf r w' := by
  have HOK : Aside0 (∀ r w', TakePost (w.alloc (.cells #[.slice B cs.length d, .int .i64 a] 24)) g cs l0 e0 r w' → TP w g ok vs lf r w') := ⟨fun r w' hp => by
    unfold TakePost at hp
    rw [hok, hvs, hlf] at hp
    exact ⟨hp.1, (Off.below' (Off.refl g w) h.lt (below_alloc (Below.refl _ _) _)).trans hp.2.1, hp.2.2⟩⟩
  have HTK := Aside0.mk (take_calls (w.alloc (.cells #[.slice B cs.length d, .int .i64 a] 24)) g A0 l0 c0 e0 (h.below (below_alloc (Below.refl _ _) _)) hb B d cs (Kd.C_alloc hC _) hd h1 h8 hk (fun W ho => hT W ((Off.below' (Off.refl g w) h.lt (below_alloc (Below.refl _ _) _)).trans ho)))
  clear h hb hC hk hT hok hvs hlf
  go_enter Tryd.func15, Tryd.ntmps15
  go_wp2_with (go_at_call 42; refine Calls.mono (HTK.out.mono (fun e w' h => (⟨HOK.out e w' h⟩ : Aside0 (TP w g ok vs lf e w')))) ?_)
  rintro r w1 hp
  have hr := hp.out.2.2
  unfold TakeR at hr
  cases ok with
  | false =>
    rw [if_neg (by decide)] at hr
    subst hr
    go_wp2
    go_ret2
    exact hp.out
  | true =>
    rw [if_pos rfl] at hr
    obtain ⟨B1, d1, rfl, _, _⟩ := hr
    go_wp2
    go_ret2
    exact hp.out
set_option maxHeartbeats 2000000 in
theorem ikey_calls (w : World) (g : Nat) (A0 : Option Addr) (l0 : List Int) (c0 : Nat) (e0 : Int) (h : Rd w g A0 l0 c0 e0) (hb : ∀ x ∈ l0, 0 ≤ x ∧ x < 256) (B : Option Addr) (d n : Nat) (cs ck : List Col) (hck : cs.take n = ck) (hC : Kd.C k69 w B cs.length cs) (hd : cs.length ≤ d)
    (h1 : 1 ≤ n) (hn : n ≤ cs.length) (h8 : cs.length ≤ 8) (hk : ∀ c ∈ cs, 1 ≤ c.f1 ∧ c.f1 ≤ 4) (hT : ∀ W, Off g w W → Tabs W) (ok : Bool) (vs : List V) (lf : List Int) (hok : okB ck (byteV l0 e0) (byteL l0 e0) (byteE l0 e0) = ok) (hvs : (rowR ck (byteV l0 e0) (byteL l0 e0) (byteE l0 e0)).1 = vs) (hlf : (rowR ck (byteV l0 e0) (byteL l0 e0) (byteE l0 e0)).2.1 = lf) :
    Calls Tryd.prog 19 #[.pointer (some ⟨g, 0, none⟩), .agg #[.slice B cs.length d, .int .i64 (n : Int)]] w fun r w' => TP w g ok vs lf r w' := by
  have hlen : ck.length = n := by rw [← hck, List.length_take]; omega
  have hC2 : Kd.C k69 (w.alloc (.cells #[.slice B cs.length d, .int .i64 (n : Int)] 24)) B ck.length ck := by
    rw [← hck]
    exact Kd.C_take (Kd.C_alloc hC _) hn
  have HOK : Aside0 (∀ r w', TakePost (w.alloc (.cells #[.slice B cs.length d, .int .i64 (n : Int)] 24)) g ck l0 e0 r w' → TP w g ok vs lf r w') := ⟨fun r w' hp => by
    unfold TakePost at hp
    rw [hok, hvs, hlf] at hp
    exact ⟨hp.1, (Off.below' (Off.refl g w) h.lt (below_alloc (Below.refl _ _) _)).trans hp.2.1, hp.2.2⟩⟩
  have htk := take_calls (w.alloc (.cells #[.slice B cs.length d, .int .i64 (n : Int)] 24)) g A0 l0 c0 e0 (h.below (below_alloc (Below.refl _ _) _)) hb B d ck hC2 (by omega) (by omega) (by omega) (fun c hc => hk c (by rw [← hck] at hc; exact List.mem_of_mem_take hc)) (fun W ho => hT W ((Off.below' (Off.refl g w) h.lt (below_alloc (Below.refl _ _) _)).trans ho))
  rw [hlen] at htk
  have HTK := Aside0.mk htk
  have hl31 : cs.length ≤ 9223372036854775807 := hC.2.1
  clear h hb hC hk hT hok hvs hlf hC2 htk hlen hck
  go_enter Tryd.func19, Tryd.ntmps19
  go_wp2_with (go_at_call 42; refine Calls.mono (HTK.out.mono (fun e w' h => (⟨HOK.out e w' h⟩ : Aside0 (TP w g ok vs lf e w')))) ?_)
  rintro r w1 hp
  have hr := hp.out.2.2
  unfold TakeR at hr
  cases ok with
  | false =>
    rw [if_neg (by decide)] at hr
    subst hr
    go_wp2
    go_ret2
    exact hp.out
  | true =>
    rw [if_pos rfl] at hr
    obtain ⟨B1, d1, rfl, _, _⟩ := hr
    go_wp2
    go_ret2
    exact hp.out
/-! ### values beside a reader -/
variable {W W1 : World} {g c : Nat} {A : Option Addr}
theorem vals_far {t : TypeId} {m : Nat} {B : Option Addr} {x : Int} {vs : List V} (hb : W.heap[g]? = some (.cells #[.slice A m c, .int .i64 x] t (0, 0))) (hC : Kd.C k51 W B vs.length vs) (ho : Off g W W1) : Kd.C k51 W1 B vs.length vs := by
  refine Kd.C_foot_ne (fun h => h) hC (fun ad hB hn => ?_) W1 ho.keep
  obtain ⟨ad2, pp, e2, hpp, p0, p1, _⟩ := C3v hC 0 hn
  rw [hB] at e2
  injection e2 with e2
  subst e2
  intro he
  have hbk : pp.block = g := by rw [← hpp, add_block]; exact he
  subst hbk
  unfold World.cell? at p0 p1
  rw [hb] at p0 p1
  rcases pp with ⟨b, o, s⟩
  simp only at p0 p1
  split at p0
  · cases p0
  · match o, p0, p1 with
    | 0, p0, _ => simp at p0
    | 1, _, p1 => simp at p1
    | (k + 2), p0, _ => simp at p0
/-! ### the same -/
theorem same_refl (l : List V) (hl : l.length ≤ 100000) : ∀ (d i : Nat), l.length - i = d → i ≤ l.length → pantographref03_Same.l0 (d + 1) l l (i : Int) = some true := by
  intro d
  induction d with
  | zero =>
    intro i hd hi
    rw [pantographref03_Same.l0, if_neg (by omega)]
  | succ d ih =>
    intro i hd hi
    have e : wrap64 ((i : Int) + 1) = ((i + 1 : Nat) : Int) := by unfold wrap64; omega
    rw [pantographref03_Same.l0, if_pos (by omega), if_pos (by omega), if_pos (by omega), if_neg (by simp), e]
    exact ih (i + 1) (by omega) (by omega)
theorem same_calls (A A1 : Option Addr) (c c1 : Nat) (l : List V) (w : World) (hl : l.length ≤ 100000) (hr : Kd.C k51 w A l.length l) (hc : l.length ≤ c) (hr1 : Kd.C k51 w A1 l.length l) (hc1 : l.length ≤ c1) :
    Calls Tryd.prog 17 #[.slice A l.length c, .slice A1 l.length c1] w fun e w' => e = .returned (.bool true) ∧ ∃ m, w' = w.drewN m := by
  have hK : ∃ K, pantographref03_Same.f K l l = some true := ⟨_, by unfold pantographref03_Same.f; rw [if_pos rfl]; exact same_refl l hl _ 0 rfl (Nat.zero_le _)⟩
  obtain ⟨K, hK⟩ := hK
  exact (pantographref03_Same.calls K A c l A1 c1 l true w hr hc hr1 hc1 hK).mono fun e w' h => ⟨h.1, h.2.out⟩
end Go.Proofs.YtaddlkokencbkaaDoor.Law5
