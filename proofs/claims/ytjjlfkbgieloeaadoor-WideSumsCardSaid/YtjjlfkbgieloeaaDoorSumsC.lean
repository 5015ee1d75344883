/- The walk of the law WideSums, one case. Conditions: those of its row. -/
import Derived.Test.YtjjlfkbgieloeaaDoorClass2
namespace Go.Proofs.YtjjlfkbgieloeaaDoor
open Go.RowKit Go.BigFrame
set_option maxHeartbeats 4000000 in
set_option maxRecDepth 100000 in
theorem sums_C (a b c s d u : Nat) (q : Bool) (w : World) (hm : MostIs w) (H23 : ∀ w, Calls Tryd.prog 23 #[A a, A b] w fun e w' => e = .returned (.tuple #[.agg #[.int .u64 (hi s), .int .u64 (lo s)], .bool true]) ∧ Below w.heap.size w w') (H25 : ∀ w, Calls Tryd.prog 25 #[A a, A b] w fun e w' => e = .returned (.tuple #[.agg #[.int .u64 (hi s), .int .u64 (lo s)], .bool true]) ∧ Below w.heap.size w w') (H26 : ∀ w, Calls Tryd.prog 26 #[A a, A b] w fun e w' => e = .returned (.tuple #[.agg #[.int .u64 (hi d), .int .u64 (lo d)], .bool q]) ∧ Below w.heap.size w w') (H27 : ∀ w, Calls Tryd.prog 27 #[A a, A b] w fun e w' => e = .returned (.tuple #[.agg #[.int .u64 (hi d), .int .u64 (lo d)], .bool q]) ∧ Below w.heap.size w w') (H24 : ∀ w g cap, Blk w g 24 (threes a b c) → Calls Tryd.prog 24 #[.slice (some ⟨g, 0, none⟩) 3 cap] w fun e w' => e = .returned (.tuple #[.agg #[.int .u64 (hi u), .int .u64 (lo u)], .bool true]) ∧ Below w.heap.size w w') (H25b : ∀ w, Calls Tryd.prog 25 #[A s, A c] w fun e w' => e = .returned (.tuple #[.agg #[.int .u64 (hi u), .int .u64 (lo u)], .bool true]) ∧ Below w.heap.size w w') (H26b : ∀ w, Calls Tryd.prog 26 #[A s, A b] w fun e w' => e = .returned (.tuple #[.agg #[.int .u64 (hi a), .int .u64 (lo a)], .bool true]) ∧ Below w.heap.size w w') :
    Calls Tryd.prog 6 #[A a, A b, A c] w fun e w' => e = .returned (.bool true) ∧ Below w.heap.size w w' := by
  obtain ⟨Ba, Bb, Bc⟩ := new3 w a b c
  have hm0 : MostIs (((w.alloc (.cells #[.int .u64 (hi a), .int .u64 (lo a)] 24)).alloc (.cells #[.int .u64 (hi b), .int .u64 (lo b)] 24)).alloc (.cells #[.int .u64 (hi c), .int .u64 (lo c)] 24)) := ((hm.below (below_al (Below.refl _ _) _)).below (below_al (Below.refl _ _) _)).below (below_al (Below.refl _ _) _)
  clear hm
  go_enter Tryd.func6, Tryd.ntmps6
  go_wp2_with fail
  refine (alive_true _ hm0).mono ?_
  rintro e w1 ⟨rfl, hb_w1⟩
  have Ba_ : Blk w1 w.heap.size 24 #[.int .u64 (hi a), .int .u64 (lo a)] := Blk.carry (by repeat (with_reducible first | assumption | apply Blk.drewN | apply Blk.drew | apply Blk.alloc)) hb_w1
  have Bb_ : Blk w1 (w.heap.size + 1) 24 #[.int .u64 (hi b), .int .u64 (lo b)] := Blk.carry (by repeat (with_reducible first | assumption | apply Blk.drewN | apply Blk.drew | apply Blk.alloc)) hb_w1
  have Bc_ : Blk w1 (w.heap.size + 1 + 1) 24 #[.int .u64 (hi c), .int .u64 (lo c)] := Blk.carry (by repeat (with_reducible first | assumption | apply Blk.drewN | apply Blk.drew | apply Blk.alloc)) hb_w1
  clear Ba Bb Bc
  have Ba := Ba_
  clear Ba_
  have Bb := Bb_
  clear Bb_
  have Bc := Bc_
  clear Bc_
  have ca0 := cell_of0 Ba
  have ca1 := cell_of1 Ba
  have la := Ba.lt
  have cb0 := cell_of0 Bb
  have cb1 := cell_of1 Bb
  have lb := Bb.lt
  have cc0 := cell_of0 Bc
  have cc1 := cell_of1 Bc
  have lc := Bc.lt
  go_wp2_with fail
  refine (H23 _).mono ?_
  rintro e w2 ⟨rfl, hb_w2⟩
  have Ba_ : Blk w2 w.heap.size 24 #[.int .u64 (hi a), .int .u64 (lo a)] := Blk.carry (by repeat (with_reducible first | assumption | apply Blk.drewN | apply Blk.drew | apply Blk.alloc)) hb_w2
  have Bb_ : Blk w2 (w.heap.size + 1) 24 #[.int .u64 (hi b), .int .u64 (lo b)] := Blk.carry (by repeat (with_reducible first | assumption | apply Blk.drewN | apply Blk.drew | apply Blk.alloc)) hb_w2
  have Bc_ : Blk w2 (w.heap.size + 1 + 1) 24 #[.int .u64 (hi c), .int .u64 (lo c)] := Blk.carry (by repeat (with_reducible first | assumption | apply Blk.drewN | apply Blk.drew | apply Blk.alloc)) hb_w2
  clear ca0 ca1 la Ba cb0 cb1 lb Bb cc0 cc1 lc Bc
  have Ba := Ba_
  clear Ba_
  have Bb := Bb_
  clear Bb_
  have Bc := Bc_
  clear Bc_
  have Bs : Blk (w2.alloc (.cells #[.int .u64 (hi s), .int .u64 (lo s)] 24)) w2.heap.size 24 #[.int .u64 (hi s), .int .u64 (lo s)] := Blk.new _ _ _
  have ca0 := cell_of0 Ba
  have ca1 := cell_of1 Ba
  have la := Ba.lt
  have cb0 := cell_of0 Bb
  have cb1 := cell_of1 Bb
  have lb := Bb.lt
  have cc0 := cell_of0 Bc
  have cc1 := cell_of1 Bc
  have lc := Bc.lt
  have cs0 := cell_of0 Bs
  have cs1 := cell_of1 Bs
  have ls := Bs.lt
  go_wp2_with fail
  refine (H25 _).mono ?_
  rintro e w3 ⟨rfl, hb_w3⟩
  have Ba_ : Blk w3 w.heap.size 24 #[.int .u64 (hi a), .int .u64 (lo a)] := Blk.carry (by repeat (with_reducible first | assumption | apply Blk.drewN | apply Blk.drew | apply Blk.alloc)) hb_w3
  have Bb_ : Blk w3 (w.heap.size + 1) 24 #[.int .u64 (hi b), .int .u64 (lo b)] := Blk.carry (by repeat (with_reducible first | assumption | apply Blk.drewN | apply Blk.drew | apply Blk.alloc)) hb_w3
  have Bc_ : Blk w3 (w.heap.size + 1 + 1) 24 #[.int .u64 (hi c), .int .u64 (lo c)] := Blk.carry (by repeat (with_reducible first | assumption | apply Blk.drewN | apply Blk.drew | apply Blk.alloc)) hb_w3
  have Bs_ : Blk w3 w2.heap.size 24 #[.int .u64 (hi s), .int .u64 (lo s)] := Blk.carry (by repeat (with_reducible first | assumption | apply Blk.drewN | apply Blk.drew | apply Blk.alloc)) hb_w3
  clear ca0 ca1 la Ba cb0 cb1 lb Bb cc0 cc1 lc Bc cs0 cs1 ls Bs
  have Ba := Ba_
  clear Ba_
  have Bb := Bb_
  clear Bb_
  have Bc := Bc_
  clear Bc_
  have Bs := Bs_
  clear Bs_
  have Bt : Blk (w3.alloc (.cells #[.int .u64 (hi s), .int .u64 (lo s)] 24)) w3.heap.size 24 #[.int .u64 (hi s), .int .u64 (lo s)] := Blk.new _ _ _
  have ca0 := cell_of0 Ba
  have ca1 := cell_of1 Ba
  have la := Ba.lt
  have cb0 := cell_of0 Bb
  have cb1 := cell_of1 Bb
  have lb := Bb.lt
  have cc0 := cell_of0 Bc
  have cc1 := cell_of1 Bc
  have lc := Bc.lt
  have cs0 := cell_of0 Bs
  have cs1 := cell_of1 Bs
  have ls := Bs.lt
  have ct0 := cell_of0 Bt
  have ct1 := cell_of1 Bt
  have lt := Bt.lt
  go_wp2_with fail
  refine (H26 _).mono ?_
  rintro e w4 ⟨rfl, hb_w4⟩
  have Ba_ : Blk w4 w.heap.size 24 #[.int .u64 (hi a), .int .u64 (lo a)] := Blk.carry (by repeat (with_reducible first | assumption | apply Blk.drewN | apply Blk.drew | apply Blk.alloc)) hb_w4
  have Bb_ : Blk w4 (w.heap.size + 1) 24 #[.int .u64 (hi b), .int .u64 (lo b)] := Blk.carry (by repeat (with_reducible first | assumption | apply Blk.drewN | apply Blk.drew | apply Blk.alloc)) hb_w4
  have Bc_ : Blk w4 (w.heap.size + 1 + 1) 24 #[.int .u64 (hi c), .int .u64 (lo c)] := Blk.carry (by repeat (with_reducible first | assumption | apply Blk.drewN | apply Blk.drew | apply Blk.alloc)) hb_w4
  have Bs_ : Blk w4 w2.heap.size 24 #[.int .u64 (hi s), .int .u64 (lo s)] := Blk.carry (by repeat (with_reducible first | assumption | apply Blk.drewN | apply Blk.drew | apply Blk.alloc)) hb_w4
  have Bt_ : Blk w4 w3.heap.size 24 #[.int .u64 (hi s), .int .u64 (lo s)] := Blk.carry (by repeat (with_reducible first | assumption | apply Blk.drewN | apply Blk.drew | apply Blk.alloc)) hb_w4
  clear ca0 ca1 la Ba cb0 cb1 lb Bb cc0 cc1 lc Bc cs0 cs1 ls Bs ct0 ct1 lt Bt
  have Ba := Ba_
  clear Ba_
  have Bb := Bb_
  clear Bb_
  have Bc := Bc_
  clear Bc_
  have Bs := Bs_
  clear Bs_
  have Bt := Bt_
  clear Bt_
  have Bd : Blk (w4.alloc (.cells #[.int .u64 (hi d), .int .u64 (lo d)] 24)) w4.heap.size 24 #[.int .u64 (hi d), .int .u64 (lo d)] := Blk.new _ _ _
  have ca0 := cell_of0 Ba
  have ca1 := cell_of1 Ba
  have la := Ba.lt
  have cb0 := cell_of0 Bb
  have cb1 := cell_of1 Bb
  have lb := Bb.lt
  have cc0 := cell_of0 Bc
  have cc1 := cell_of1 Bc
  have lc := Bc.lt
  have cs0 := cell_of0 Bs
  have cs1 := cell_of1 Bs
  have ls := Bs.lt
  have ct0 := cell_of0 Bt
  have ct1 := cell_of1 Bt
  have lt := Bt.lt
  have cd0 := cell_of0 Bd
  have cd1 := cell_of1 Bd
  have ld := Bd.lt
  go_wp2_with fail
  refine (H27 _).mono ?_
  rintro e w5 ⟨rfl, hb_w5⟩
  have Ba_ : Blk w5 w.heap.size 24 #[.int .u64 (hi a), .int .u64 (lo a)] := Blk.carry (by repeat (with_reducible first | assumption | apply Blk.drewN | apply Blk.drew | apply Blk.alloc)) hb_w5
  have Bb_ : Blk w5 (w.heap.size + 1) 24 #[.int .u64 (hi b), .int .u64 (lo b)] := Blk.carry (by repeat (with_reducible first | assumption | apply Blk.drewN | apply Blk.drew | apply Blk.alloc)) hb_w5
  have Bc_ : Blk w5 (w.heap.size + 1 + 1) 24 #[.int .u64 (hi c), .int .u64 (lo c)] := Blk.carry (by repeat (with_reducible first | assumption | apply Blk.drewN | apply Blk.drew | apply Blk.alloc)) hb_w5
  have Bs_ : Blk w5 w2.heap.size 24 #[.int .u64 (hi s), .int .u64 (lo s)] := Blk.carry (by repeat (with_reducible first | assumption | apply Blk.drewN | apply Blk.drew | apply Blk.alloc)) hb_w5
  have Bt_ : Blk w5 w3.heap.size 24 #[.int .u64 (hi s), .int .u64 (lo s)] := Blk.carry (by repeat (with_reducible first | assumption | apply Blk.drewN | apply Blk.drew | apply Blk.alloc)) hb_w5
  have Bd_ : Blk w5 w4.heap.size 24 #[.int .u64 (hi d), .int .u64 (lo d)] := Blk.carry (by repeat (with_reducible first | assumption | apply Blk.drewN | apply Blk.drew | apply Blk.alloc)) hb_w5
  clear ca0 ca1 la Ba cb0 cb1 lb Bb cc0 cc1 lc Bc cs0 cs1 ls Bs ct0 ct1 lt Bt cd0 cd1 ld Bd
  have Ba := Ba_
  clear Ba_
  have Bb := Bb_
  clear Bb_
  have Bc := Bc_
  clear Bc_
  have Bs := Bs_
  clear Bs_
  have Bt := Bt_
  clear Bt_
  have Bd := Bd_
  clear Bd_
  have Be : Blk (w5.alloc (.cells #[.int .u64 (hi d), .int .u64 (lo d)] 24)) w5.heap.size 24 #[.int .u64 (hi d), .int .u64 (lo d)] := Blk.new _ _ _
  have ca0 := cell_of0 Ba
  have ca1 := cell_of1 Ba
  have la := Ba.lt
  have cb0 := cell_of0 Bb
  have cb1 := cell_of1 Bb
  have lb := Bb.lt
  have cc0 := cell_of0 Bc
  have cc1 := cell_of1 Bc
  have lc := Bc.lt
  have cs0 := cell_of0 Bs
  have cs1 := cell_of1 Bs
  have ls := Bs.lt
  have ct0 := cell_of0 Bt
  have ct1 := cell_of1 Bt
  have lt := Bt.lt
  have cd0 := cell_of0 Bd
  have cd1 := cell_of1 Bd
  have ld := Bd.lt
  have ce0 := cell_of0 Be
  have ce1 := cell_of1 Be
  have le := Be.lt
  go_wp2_with fail
  refine (H24 _ _ _ (threes_new _ _ a b c)).mono ?_
  rintro e w6 ⟨rfl, hb_w6⟩
  have Ba_ : Blk w6 w.heap.size 24 #[.int .u64 (hi a), .int .u64 (lo a)] := Blk.carry (by repeat (with_reducible first | assumption | apply Blk.drewN | apply Blk.drew | apply Blk.alloc)) hb_w6
  have Bb_ : Blk w6 (w.heap.size + 1) 24 #[.int .u64 (hi b), .int .u64 (lo b)] := Blk.carry (by repeat (with_reducible first | assumption | apply Blk.drewN | apply Blk.drew | apply Blk.alloc)) hb_w6
  have Bc_ : Blk w6 (w.heap.size + 1 + 1) 24 #[.int .u64 (hi c), .int .u64 (lo c)] := Blk.carry (by repeat (with_reducible first | assumption | apply Blk.drewN | apply Blk.drew | apply Blk.alloc)) hb_w6
  have Bs_ : Blk w6 w2.heap.size 24 #[.int .u64 (hi s), .int .u64 (lo s)] := Blk.carry (by repeat (with_reducible first | assumption | apply Blk.drewN | apply Blk.drew | apply Blk.alloc)) hb_w6
  have Bt_ : Blk w6 w3.heap.size 24 #[.int .u64 (hi s), .int .u64 (lo s)] := Blk.carry (by repeat (with_reducible first | assumption | apply Blk.drewN | apply Blk.drew | apply Blk.alloc)) hb_w6
  have Bd_ : Blk w6 w4.heap.size 24 #[.int .u64 (hi d), .int .u64 (lo d)] := Blk.carry (by repeat (with_reducible first | assumption | apply Blk.drewN | apply Blk.drew | apply Blk.alloc)) hb_w6
  have Be_ : Blk w6 w5.heap.size 24 #[.int .u64 (hi d), .int .u64 (lo d)] := Blk.carry (by repeat (with_reducible first | assumption | apply Blk.drewN | apply Blk.drew | apply Blk.alloc)) hb_w6
  clear ca0 ca1 la Ba cb0 cb1 lb Bb cc0 cc1 lc Bc cs0 cs1 ls Bs ct0 ct1 lt Bt cd0 cd1 ld Bd ce0 ce1 le Be
  have Ba := Ba_
  clear Ba_
  have Bb := Bb_
  clear Bb_
  have Bc := Bc_
  clear Bc_
  have Bs := Bs_
  clear Bs_
  have Bt := Bt_
  clear Bt_
  have Bd := Bd_
  clear Bd_
  have Be := Be_
  clear Be_
  have Bu : Blk (w6.alloc (.cells #[.int .u64 (hi u), .int .u64 (lo u)] 24)) w6.heap.size 24 #[.int .u64 (hi u), .int .u64 (lo u)] := Blk.new _ _ _
  have ca0 := cell_of0 Ba
  have ca1 := cell_of1 Ba
  have la := Ba.lt
  have cb0 := cell_of0 Bb
  have cb1 := cell_of1 Bb
  have lb := Bb.lt
  have cc0 := cell_of0 Bc
  have cc1 := cell_of1 Bc
  have lc := Bc.lt
  have cs0 := cell_of0 Bs
  have cs1 := cell_of1 Bs
  have ls := Bs.lt
  have ct0 := cell_of0 Bt
  have ct1 := cell_of1 Bt
  have lt := Bt.lt
  have cd0 := cell_of0 Bd
  have cd1 := cell_of1 Bd
  have ld := Bd.lt
  have ce0 := cell_of0 Be
  have ce1 := cell_of1 Be
  have le := Be.lt
  have cu0 := cell_of0 Bu
  have cu1 := cell_of1 Bu
  have lu := Bu.lt
  go_wp2_with fail
  refine (H25b _).mono ?_
  rintro e w7 ⟨rfl, hb_w7⟩
  have Ba_ : Blk w7 w.heap.size 24 #[.int .u64 (hi a), .int .u64 (lo a)] := Blk.carry (by repeat (with_reducible first | assumption | apply Blk.drewN | apply Blk.drew | apply Blk.alloc)) hb_w7
  have Bb_ : Blk w7 (w.heap.size + 1) 24 #[.int .u64 (hi b), .int .u64 (lo b)] := Blk.carry (by repeat (with_reducible first | assumption | apply Blk.drewN | apply Blk.drew | apply Blk.alloc)) hb_w7
  have Bc_ : Blk w7 (w.heap.size + 1 + 1) 24 #[.int .u64 (hi c), .int .u64 (lo c)] := Blk.carry (by repeat (with_reducible first | assumption | apply Blk.drewN | apply Blk.drew | apply Blk.alloc)) hb_w7
  have Bs_ : Blk w7 w2.heap.size 24 #[.int .u64 (hi s), .int .u64 (lo s)] := Blk.carry (by repeat (with_reducible first | assumption | apply Blk.drewN | apply Blk.drew | apply Blk.alloc)) hb_w7
  have Bt_ : Blk w7 w3.heap.size 24 #[.int .u64 (hi s), .int .u64 (lo s)] := Blk.carry (by repeat (with_reducible first | assumption | apply Blk.drewN | apply Blk.drew | apply Blk.alloc)) hb_w7
  have Bd_ : Blk w7 w4.heap.size 24 #[.int .u64 (hi d), .int .u64 (lo d)] := Blk.carry (by repeat (with_reducible first | assumption | apply Blk.drewN | apply Blk.drew | apply Blk.alloc)) hb_w7
  have Be_ : Blk w7 w5.heap.size 24 #[.int .u64 (hi d), .int .u64 (lo d)] := Blk.carry (by repeat (with_reducible first | assumption | apply Blk.drewN | apply Blk.drew | apply Blk.alloc)) hb_w7
  have Bu_ : Blk w7 w6.heap.size 24 #[.int .u64 (hi u), .int .u64 (lo u)] := Blk.carry (by repeat (with_reducible first | assumption | apply Blk.drewN | apply Blk.drew | apply Blk.alloc)) hb_w7
  clear ca0 ca1 la Ba cb0 cb1 lb Bb cc0 cc1 lc Bc cs0 cs1 ls Bs ct0 ct1 lt Bt cd0 cd1 ld Bd ce0 ce1 le Be cu0 cu1 lu Bu
  have Ba := Ba_
  clear Ba_
  have Bb := Bb_
  clear Bb_
  have Bc := Bc_
  clear Bc_
  have Bs := Bs_
  clear Bs_
  have Bt := Bt_
  clear Bt_
  have Bd := Bd_
  clear Bd_
  have Be := Be_
  clear Be_
  have Bu := Bu_
  clear Bu_
  have Bv : Blk (w7.alloc (.cells #[.int .u64 (hi u), .int .u64 (lo u)] 24)) w7.heap.size 24 #[.int .u64 (hi u), .int .u64 (lo u)] := Blk.new _ _ _
  have ca0 := cell_of0 Ba
  have ca1 := cell_of1 Ba
  have la := Ba.lt
  have cb0 := cell_of0 Bb
  have cb1 := cell_of1 Bb
  have lb := Bb.lt
  have cc0 := cell_of0 Bc
  have cc1 := cell_of1 Bc
  have lc := Bc.lt
  have cs0 := cell_of0 Bs
  have cs1 := cell_of1 Bs
  have ls := Bs.lt
  have ct0 := cell_of0 Bt
  have ct1 := cell_of1 Bt
  have lt := Bt.lt
  have cd0 := cell_of0 Bd
  have cd1 := cell_of1 Bd
  have ld := Bd.lt
  have ce0 := cell_of0 Be
  have ce1 := cell_of1 Be
  have le := Be.lt
  have cu0 := cell_of0 Bu
  have cu1 := cell_of1 Bu
  have lu := Bu.lt
  have cv0 := cell_of0 Bv
  have cv1 := cell_of1 Bv
  have lv := Bv.lt
  have fv0 := Bv.frozen 0
  have fv1 := Bv.frozen 1
  go_wp2_with fail
  refine (H26b _).mono ?_
  rintro e w8 ⟨rfl, hb_w8⟩
  have Ba_ : Blk w8 w.heap.size 24 #[.int .u64 (hi a), .int .u64 (lo a)] := Blk.carry (Ba.alloc _) hb_w8
  have za0 := cell_of0 Ba_
  have za1 := cell_of1 Ba_
  have la_ := Ba_.lt
  have Bx : Blk (w8.alloc (.cells #[.int .u64 (hi a), .int .u64 (lo a)] 24)) w8.heap.size 24 #[.int .u64 (hi a), .int .u64 (lo a)] := Blk.new _ _ _
  have zx0 := cell_of0 Bx
  have zx1 := cell_of1 Bx
  go_wp2
  go_ret
  exact ⟨rfl, by repeat (with_reducible first | exact Below.refl _ _ | assumption | refine below_al ?_ _ | refine below_set ?_ (by omega) | refine below_drewN ?_ | refine below_dr ?_ | refine below_on ?_ (by assumption))⟩
end Go.Proofs.YtjjlfkbgieloeaaDoor
