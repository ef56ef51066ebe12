/- The walk of the law ValueShows: a value as a text is the document's, and two of one kind have the same just if they are the same. No condition. -/
import Derived.Test.YtaddlkokencbkaaDoorVShow
import Derived.Test.YtaddlkokencbkaaDoorCmp3
import Derived.Test.YtaddlkokencbkaaDoorLives3
namespace Go.Proofs.YtaddlkokencbkaaDoor.RowValueShowsW
open Go.RowKit Go.Proofs.YtaddlkokencbkaaDoorW.PrintWords Go.Proofs.YtaddlkokencbkaaDoorW.PrintLast Go.Proofs.YtaddlkokencbkaaDoorW.PrintMore Go.Proofs.YtaddlkokencbkaaDoor.Q Go.Proofs.YtaddlkokencbkaaDoor.Shelf Go.Proofs.YtaddlkokencbkaaDoor.May Go.Proofs.YtaddlkokencbkaaDoor.VKeyW Go.Proofs.YtaddlkokencbkaaDoor.OpenV Go.Proofs.YtaddlkokencbkaaDoor.Vals Go.Proofs.YtaddlkokencbkaaDoor.VOrd Go.Proofs.YtaddlkokencbkaaDoor.Plain Go.Proofs.YtaddlkokencbkaaDoor.VShow
set_option linter.unusedVariables false
set_option linter.unusedSimpArgs false
abbrev blkA (k n : Int) (s : ByteArray) : Obj := .cells #[.int .i64 k, .int .i64 n, .string s] 51
theorem good_c (k n : Int) (s : ByteArray) (a b : Int) (c : ByteArray) (w : World) (h : gv ⟨k, n, s⟩ = ⟨a, b, c⟩) :
    Calls Tryd.prog 28 #[.agg #[.int .i64 k, .int .i64 n, .string s]] w fun e w' => e = .returned (.agg #[.int .i64 a, .int .i64 b, .string c]) ∧ Below w.heap.size w w' := by
  refine (Good.good_calls k n s w).mono ?_
  rintro e w' ⟨rfl, hb⟩
  have h2 : (⟨(Good.goodV k n s).1, (Good.goodV k n s).2.1, (Good.goodV k n s).2.2⟩ : V) = ⟨a, b, c⟩ := h
  have e1 : (Good.goodV k n s).1 = a := congrArg (fun v : V => v.f0) h2
  have e2 : (Good.goodV k n s).2.1 = b := congrArg (fun v : V => v.f1) h2
  have e3 : (Good.goodV k n s).2.2 = c := congrArg (fun v : V => v.f2) h2
  exact ⟨by rw [e1, e2, e3], hb⟩
theorem show_c (k n : Int) (s r : ByteArray) (w : World) (hn : RangeI n) (hs : s.size ≤ 100000) (hP : Pow w) (h : textV ⟨k, n, s⟩ = r) :
    Calls Tryd.prog 29 #[.agg #[.int .i64 k, .int .i64 n, .string s]] w fun e w' => e = .returned (.string r) ∧ Below w.heap.size w w' := by
  subst h
  obtain ⟨K, hK⟩ := quoted_f s hs
  exact Show.show_calls K k n s _ w hn.1 hn.2 hP hK
theorem ref_c (k n : Int) (s r : ByteArray) (w : World) (hn : RangeI n) (hm : mayV ⟨k, n, s⟩ = true) (hs : s.size ≤ 100000) (h : textV ⟨k, n, s⟩ = r) :
    Calls Tryd.prog 30 #[.agg #[.int .i64 k, .int .i64 n, .string s]] w fun e w' => e = .returned (.string r) ∧ Below w.heap.size w w' := by
  subst h
  obtain ⟨K, hK⟩ := refshow_f ⟨k, n, s⟩ hn hm hs
  exact pantographref03_Show.calls K k n s _ w hK
set_option maxHeartbeats 4000000 in
set_option maxRecDepth 100000 in
theorem walk (k n : Int) (s : ByteArray) (k' n' : Int) (s' : ByteArray) (a b : Int) (c : ByteArray) (a' b' : Int) (c' : ByteArray) (S T : ByteArray) (w : World) (hT : Tabs w) (hP : Pow w) (h : gv ⟨k, n, s⟩ = ⟨a, b, c⟩) (h' : gv ⟨k', n', s'⟩ = ⟨a', b', c'⟩)
    (rb : RangeI b) (rb' : RangeI b') (ma : mayV ⟨a, b, c⟩ = true) (ma' : mayV ⟨a', b', c'⟩ = true) (sc : c.size ≤ 40) (sc' : c'.size ≤ 40) (hS : textV ⟨a, b, c⟩ = S) (hTT : textV ⟨a', b', c'⟩ = T)
    (hi : (a = a' → ((S.toList == T.toList) = (b == b' && (c.toList == c'.toList))))) :
    Calls Tryd.prog 6 #[.agg #[.int .i64 k, .int .i64 n, .string s], .agg #[.int .i64 k', .int .i64 n', .string s']] w fun e w' => e = .returned (.bool true) ∧ Below w.heap.size w w' := by
  have HG := Aside0.mk h
  have HG' := Aside0.mk h'
  have HT := Aside0.mk hT
  have HP := Aside0.mk hP
  have RB := Aside0.mk rb
  have RB' := Aside0.mk rb'
  have MA := Aside0.mk ma
  have MA' := Aside0.mk ma'
  have SC := Aside0.mk sc
  have SC' := Aside0.mk sc'
  have HS := Aside0.mk hS
  have HTT := Aside0.mk hTT
  have HI := Aside0.mk hi
  have cee : ∀ y : List UInt8, (y == y) = true := by simp
  clear h h' hT hP rb rb' ma ma' sc sc' hS hTT hi
  go_enter Tryd.func6, Tryd.ntmps6
  go_upto_region 1 with fail
  have b0 := blk_below (blk_new w (blkA k n s)) (below_alloc (Below.refl (w.alloc (blkA k n s)).heap.size (w.alloc (blkA k n s))) (blkA k' n' s'))
  have k0 := (blk_cell b0 0).trans rfl
  have k1 := (blk_cell b0 1).trans rfl
  have k2 := (blk_cell b0 2).trans rfl
  have b1 := blk_new (w.alloc (blkA k n s)) (blkA k' n' s')
  have hsz : (w.alloc (blkA k n s)).heap.size = w.heap.size + 1 := by simp
  rw [hsz] at b1
  have k3 := (blk_cell b1 0).trans rfl
  have k4 := (blk_cell b1 1).trans rfl
  have k5 := (blk_cell b1 2).trans rfl
  have HW := Aside0.mk (below_alloc (below_alloc (Below.refl w.heap.size w) (blkA k n s)) (blkA k' n' s'))
  clear b0 b1 hsz
  change Code.wp _ _ _ _ ((w.alloc (blkA k n s)).alloc (blkA k' n' s'))
  generalize (w.alloc (blkA k n s)).alloc (blkA k' n' s') = W2 at k0 k1 k2 k3 k4 k5 HW ⊢
  go_upto_region 2 with (first | (go_at_call 28; refine (good_c k n s a b c _ HG.out).mono ?_; rintro e w1 ⟨rfl, hb1⟩; have HB1 := Aside0.mk (below_step HW.out hb1); have j3 := pw_cell_below hb1 k3; have j4 := pw_cell_below hb1 k4; have j5 := pw_cell_below hb1 k5; clear hb1))
  have i0 := (blk_cell (blk_new w1 (blkA a b c)) 0).trans rfl
  have i1 := (blk_cell (blk_new w1 (blkA a b c)) 1).trans rfl
  have i2 := (blk_cell (blk_new w1 (blkA a b c)) 2).trans rfl
  have m3 := pw_cell_below (below_alloc (Below.refl w1.heap.size w1) (blkA a b c)) j3
  have m4 := pw_cell_below (below_alloc (Below.refl w1.heap.size w1) (blkA a b c)) j4
  have m5 := pw_cell_below (below_alloc (Below.refl w1.heap.size w1) (blkA a b c)) j5
  have HB2 := Aside0.mk (below_alloc HB1.out (blkA a b c))
  clear j3 j4 j5 k0 k1 k2 k3 k4 k5
  change Code.wp _ _ _ _ (w1.alloc (blkA a b c))
  generalize w1.alloc (blkA a b c) = W3 at i0 i1 i2 m3 m4 m5 HB2 ⊢
  generalize w1.heap.size = g at i0 i1 i2 ⊢
  go_upto_region 3 with (first | (go_at_call 28; refine (good_c k' n' s' a' b' c' _ HG'.out).mono ?_; rintro e w2 ⟨rfl, hb2⟩; have HB3 := Aside0.mk (below_step HB2.out hb2); have i3 := pw_cell_below hb2 i0; have i4 := pw_cell_below hb2 i1; have i5 := pw_cell_below hb2 i2; clear hb2))
  have j0 := (blk_cell (blk_new w2 (blkA a' b' c')) 0).trans rfl
  have j1 := (blk_cell (blk_new w2 (blkA a' b' c')) 1).trans rfl
  have j2 := (blk_cell (blk_new w2 (blkA a' b' c')) 2).trans rfl
  have m3 := pw_cell_below (below_alloc (Below.refl w2.heap.size w2) (blkA a' b' c')) i3
  have m4 := pw_cell_below (below_alloc (Below.refl w2.heap.size w2) (blkA a' b' c')) i4
  have m5 := pw_cell_below (below_alloc (Below.refl w2.heap.size w2) (blkA a' b' c')) i5
  have HB4 := Aside0.mk (below_alloc HB3.out (blkA a' b' c'))
  clear i0 i1 i2 i3 i4 i5
  change Code.wp _ _ _ _ (w2.alloc (blkA a' b' c'))
  generalize w2.alloc (blkA a' b' c') = W4 at j0 j1 j2 m3 m4 m5 HB4 ⊢
  generalize w2.heap.size = g' at j0 j1 j2 ⊢
  have p0 : W4.cell? ⟨g, 0, none⟩ = some (.int .i64 a) := m3
  have p1 : W4.cell? ⟨g, 1, none⟩ = some (.int .i64 b) := m4
  have p2 : W4.cell? ⟨g, 2, none⟩ = some (.string c) := m5
  have q0 : W4.cell? ⟨g', 0, none⟩ = some (.int .i64 a') := j0
  have q1 : W4.cell? ⟨g', 1, none⟩ = some (.int .i64 b') := j1
  have q2 : W4.cell? ⟨g', 2, none⟩ = some (.string c') := j2
  clear m3 m4 m5 j0 j1 j2
  go_upto_region 4 with (first | (go_at_call 29; refine (show_c a b c S _ RB.out (by have := SC.out; omega) (Show.Pow.below HP.out HB4.out) HS.out).mono ?_; rintro e w5 ⟨rfl, hb5⟩; have HB5 := Aside0.mk (below_step HB4.out hb5); replace p0 := pw_cell_below hb5 p0; replace p1 := pw_cell_below hb5 p1; replace p2 := pw_cell_below hb5 p2; replace q0 := pw_cell_below hb5 q0; replace q1 := pw_cell_below hb5 q1; replace q2 := pw_cell_below hb5 q2; clear hb5))
  go_upto_region 5 with (first | (go_at_call 29; refine (show_c a' b' c' T _ RB'.out (by have := SC'.out; omega) (Show.Pow.below HP.out HB5.out) HTT.out).mono ?_; rintro e w6 ⟨rfl, hb6⟩; have HB6 := Aside0.mk (below_step HB5.out hb6); replace p0 := pw_cell_below hb6 p0; replace p1 := pw_cell_below hb6 p1; replace p2 := pw_cell_below hb6 p2; replace q0 := pw_cell_below hb6 q0; replace q1 := pw_cell_below hb6 q1; replace q2 := pw_cell_below hb6 q2; clear hb6))
  go_wp2_with (go_at_call 30; refine (ref_c a b c S _ RB.out MA.out (by have := SC.out; omega) HS.out).mono ?_)
  rintro e w7 ⟨rfl, hb7⟩
  have HB7 := Aside0.mk (below_step HB6.out hb7)
  replace p0 := pw_cell_below hb7 p0
  replace p1 := pw_cell_below hb7 p1
  replace p2 := pw_cell_below hb7 p2
  replace q0 := pw_cell_below hb7 q0
  replace q1 := pw_cell_below hb7 q1
  replace q2 := pw_cell_below hb7 q2
  clear hb7
  go_wp2_with (go_at_call 30; refine (ref_c a' b' c' T _ RB'.out MA'.out (by have := SC'.out; omega) HTT.out).mono ?_)
  rintro e w8 ⟨rfl, hb8⟩
  have HB8 := Aside0.mk (below_step HB7.out hb8)
  replace p0 := pw_cell_below hb8 p0
  replace p1 := pw_cell_below hb8 p1
  replace p2 := pw_cell_below hb8 p2
  replace q0 := pw_cell_below hb8 q0
  replace q1 := pw_cell_below hb8 q1
  replace q2 := pw_cell_below hb8 q2
  clear hb8
  have cbb : ∀ y : Bool, (y == y) = true := by simp
  have cii : ∀ y : Int, (y == y) = true := by simp
  have cnn : ∀ y : Int, (y != y) = false := by simp
  by_cases hk : a = a'
  · subst hk
    have hi := HI.out rfl
    by_cases hb : b = b'
    · subst hb
      by_cases hc : c = c'
      · subst hc
        have e1 : (S.toList == T.toList) = true := by rw [hi]; simp
        clear hi
        go_wp2_with (first | (go_at_call 27; refine (Lives3.lives_calls _ (Tabs.below HT.out HB8.out) (Show.Pow.below HP.out HB8.out)).mono ?_; rintro e w9 ⟨rfl, hb9⟩; have HB9 := Aside0.mk (below_step HB8.out hb9); clear hb9))
        go_ret
        exact ⟨rfl, HB9.out⟩
      · have hc2 : ¬ c.toList = c'.toList := fun e => hc (Cmp3.toList_inj e)
        have e2 : (c.toList == c'.toList) = false := by simpa using hc2
        have e1 : (S.toList == T.toList) = false := by rw [hi, e2]; simp
        clear hi hc
        go_wp2_with (first | (go_at_call 27; refine (Lives3.lives_calls _ (Tabs.below HT.out HB8.out) (Show.Pow.below HP.out HB8.out)).mono ?_; rintro e w9 ⟨rfl, hb9⟩; have HB9 := Aside0.mk (below_step HB8.out hb9); clear hb9))
        go_ret
        exact ⟨rfl, HB9.out⟩
    · have e2 : (b == b') = false := by simpa using hb
      have e1 : (S.toList == T.toList) = false := by rw [hi, e2]; rfl
      clear hi
      go_wp2_with (first | (go_at_call 27; refine (Lives3.lives_calls _ (Tabs.below HT.out HB8.out) (Show.Pow.below HP.out HB8.out)).mono ?_; rintro e w9 ⟨rfl, hb9⟩; have HB9 := Aside0.mk (below_step HB8.out hb9); clear hb9))
      go_ret
      exact ⟨rfl, HB9.out⟩
  · have cne : (a != a') = true := by simpa using hk
    clear hk
    go_wp2_with (first | (go_at_call 27; refine (Lives3.lives_calls _ (Tabs.below HT.out HB8.out) (Show.Pow.below HP.out HB8.out)).mono ?_; rintro e w9 ⟨rfl, hb9⟩; have HB9 := Aside0.mk (below_step HB8.out hb9); clear hb9))
    go_ret
    exact ⟨rfl, HB9.out⟩
theorem text_eq {u v : V} (hu : mayV u = true) (hv : mayV v = true) (hk : u.f0 = v.f0) : ((textV u).toList == (textV v).toList) = (u.f1 == v.f1 && (u.f2.toList == v.f2.toList)) := by
  by_cases h : u = v
  · subst h; simp
  · have h1 : (textV u).toList ≠ (textV v).toList := fun e => h (text_inj hu hv hk (Cmp3.toList_inj e))
    obtain ⟨a, b, c⟩ := u
    obtain ⟨a', b', c'⟩ := v
    dsimp only at hk
    subst hk
    rw [beq_eq_false_iff_ne.2 h1]
    symm
    by_cases hb : b = b'
    · subst hb
      have : c.toList ≠ c'.toList := fun e => h (by rw [Cmp3.toList_inj e])
      simp [this]
    · simp [hb]
theorem law_calls (y y1 : V) (w : World) (ok : OkV y) (sm : Small y) (ok1 : OkV y1) (sm1 : Small y1) (hT : Tabs w) (hP : Pow w) :
    Calls Tryd.prog 6 #[.agg #[.int .i64 y.f0, .int .i64 y.f1, .string y.f2], .agg #[.int .i64 y1.f0, .int .i64 y1.f1, .string y1.f2]] w fun e w' => e = .returned (.bool true) ∧ Below w.heap.size w w' :=
  walk y.f0 y.f1 y.f2 y1.f0 y1.f1 y1.f2 (gv y).f0 (gv y).f1 (gv y).f2 (gv y1).f0 (gv y1).f1 (gv y1).f2 _ _ w hT hP rfl rfl (gv_range y ok.2) (gv_range y1 ok1.2) (gv_may ok.1) (gv_may ok1.1) (gv_size y) (gv_size y1) rfl rfl
    (fun hk => text_eq (gv_may ok.1) (gv_may ok1.1) hk)
end Go.Proofs.YtaddlkokencbkaaDoor.RowValueShowsW
