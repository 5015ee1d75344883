/- The walk of the law WideLaws. Conditions: those of its row. -/
import Derived.Test.YtjjlfkbgieloeaaDoorClass2
namespace Go.Proofs.YtjjlfkbgieloeaaDoor
open Go.RowKit Go.BigFrame
theorem self2 (x y : Int) : (x == x && y == y) = true := by simp
theorem ok_cases (a b : Nat) : ok2 a b = false ∨ ok2 a b = true ∧ ¬ sm a b < a := by
  unfold ok2 sm
  by_cases h : a + b < M
  · right; rw [if_pos h, decide_eq_true h]; exact ⟨rfl, by omega⟩
  · left; rw [decide_eq_false h]
set_option maxHeartbeats 4000000 in
set_option maxRecDepth 100000 in
theorem laws_in (a b c : Nat) (w : World) (ha : a < M) (hb : b < M) (hc : c < M) (hm : MostIs w) :
    Calls Tryd.prog 5 #[A a, A b, A c] w fun e w' => e = .returned (.bool true) ∧ Below w.heap.size w w' := by
  obtain ⟨Ba, Bb, Bc⟩ := new3 w a b c
  have hm0 : MostIs (((w.alloc (.cells #[.int .u64 (hi a), .int .u64 (lo a)] 24)).alloc (.cells #[.int .u64 (hi b), .int .u64 (lo b)] 24)).alloc (.cells #[.int .u64 (hi c), .int .u64 (lo c)] 24)) := ((hm.below (below_al (Below.refl _ _) _)).below (below_al (Below.refl _ _) _)).below (below_al (Below.refl _ _) _)
  clear hm
  go_enter Tryd.func5, Tryd.ntmps5
  go_wp2_with fail
  refine (alive_true _ hm0).mono ?_
  rintro e w1 ⟨rfl, hb_w1⟩
  have Ba_ : Blk w1 w.heap.size 24 #[.int .u64 (hi a), .int .u64 (lo a)] := Blk.carry (by repeat (with_reducible first | assumption | apply Blk.drewN | apply Blk.drew | apply Blk.alloc)) hb_w1
  have Bb_ : Blk w1 (w.heap.size + 1) 24 #[.int .u64 (hi b), .int .u64 (lo b)] := Blk.carry (by repeat (with_reducible first | assumption | apply Blk.drewN | apply Blk.drew | apply Blk.alloc)) hb_w1
  have Bc_ : Blk w1 (w.heap.size + 1 + 1) 24 #[.int .u64 (hi c), .int .u64 (lo c)] := Blk.carry (by repeat (with_reducible first | assumption | apply Blk.drewN | apply Blk.drew | apply Blk.alloc)) hb_w1
  clear Ba Bb Bc
  have Ba := Ba_
  clear Ba_
  have Bb := Bb_
  clear Bb_
  have Bc := Bc_
  clear Bc_
  have ca0 := cell_of0 Ba
  have ca1 := cell_of1 Ba
  have la := Ba.lt
  have cb0 := cell_of0 Bb
  have cb1 := cell_of1 Bb
  have lb := Bb.lt
  have cc0 := cell_of0 Bc
  have cc1 := cell_of1 Bc
  have lc := Bc.lt
  go_wp2_with fail
  refine (add_any a b _ ha hb).mono ?_
  rintro e w2 ⟨rfl, hb_w2⟩
  have Ba_ : Blk w2 w.heap.size 24 #[.int .u64 (hi a), .int .u64 (lo a)] := Blk.carry (by repeat (with_reducible first | assumption | apply Blk.drewN | apply Blk.drew | apply Blk.alloc)) hb_w2
  have Bb_ : Blk w2 (w.heap.size + 1) 24 #[.int .u64 (hi b), .int .u64 (lo b)] := Blk.carry (by repeat (with_reducible first | assumption | apply Blk.drewN | apply Blk.drew | apply Blk.alloc)) hb_w2
  have Bc_ : Blk w2 (w.heap.size + 1 + 1) 24 #[.int .u64 (hi c), .int .u64 (lo c)] := Blk.carry (by repeat (with_reducible first | assumption | apply Blk.drewN | apply Blk.drew | apply Blk.alloc)) hb_w2
  clear ca0 ca1 la Ba cb0 cb1 lb Bb cc0 cc1 lc Bc
  have Ba := Ba_
  clear Ba_
  have Bb := Bb_
  clear Bb_
  have Bc := Bc_
  clear Bc_
  have Bx : Blk (w2.alloc (.cells #[.int .u64 (hi (sm a b)), .int .u64 (lo (sm a b))] 24)) w2.heap.size 24 #[.int .u64 (hi (sm a b)), .int .u64 (lo (sm a b))] := Blk.new _ _ _
  have ca0 := cell_of0 Ba
  have ca1 := cell_of1 Ba
  have la := Ba.lt
  have cb0 := cell_of0 Bb
  have cb1 := cell_of1 Bb
  have lb := Bb.lt
  have cc0 := cell_of0 Bc
  have cc1 := cell_of1 Bc
  have lc := Bc.lt
  go_wp2_with fail
  refine (add_any' a b _ ha hb).mono ?_
  rintro e w3 ⟨rfl, hb_w3⟩
  have Ba_ : Blk w3 w.heap.size 24 #[.int .u64 (hi a), .int .u64 (lo a)] := Blk.carry (by repeat (with_reducible first | assumption | apply Blk.drewN | apply Blk.drew | apply Blk.alloc)) hb_w3
  have Bb_ : Blk w3 (w.heap.size + 1) 24 #[.int .u64 (hi b), .int .u64 (lo b)] := Blk.carry (by repeat (with_reducible first | assumption | apply Blk.drewN | apply Blk.drew | apply Blk.alloc)) hb_w3
  have Bc_ : Blk w3 (w.heap.size + 1 + 1) 24 #[.int .u64 (hi c), .int .u64 (lo c)] := Blk.carry (by repeat (with_reducible first | assumption | apply Blk.drewN | apply Blk.drew | apply Blk.alloc)) hb_w3
  have Bx_ : Blk w3 w2.heap.size 24 #[.int .u64 (hi (sm a b)), .int .u64 (lo (sm a b))] := Blk.carry (by repeat (with_reducible first | assumption | apply Blk.drewN | apply Blk.drew | apply Blk.alloc)) hb_w3
  clear ca0 ca1 la Ba cb0 cb1 lb Bb cc0 cc1 lc Bc Bx
  have Ba := Ba_
  clear Ba_
  have Bb := Bb_
  clear Bb_
  have Bc := Bc_
  clear Bc_
  have Bx := Bx_
  clear Bx_
  have By : Blk (w3.alloc (.cells #[.int .u64 (hi (sm a b)), .int .u64 (lo (sm a b))] 24)) w3.heap.size 24 #[.int .u64 (hi (sm a b)), .int .u64 (lo (sm a b))] := Blk.new _ _ _
  have ca0 := cell_of0 Ba
  have ca1 := cell_of1 Ba
  have la := Ba.lt
  have cb0 := cell_of0 Bb
  have cb1 := cell_of1 Bb
  have lb := Bb.lt
  have cc0 := cell_of0 Bc
  have cc1 := cell_of1 Bc
  have lc := Bc.lt
  have cx0 := cell_of0 Bx
  have cx1 := cell_of1 Bx
  have lx := Bx.lt
  go_wp2_with fail
  refine (sum3_any a b c _ _ _ ha hb hc (threes_new _ _ a b c)).mono ?_
  rintro e w4 ⟨rfl, hb_w4⟩
  have Ba_ : Blk w4 w.heap.size 24 #[.int .u64 (hi a), .int .u64 (lo a)] := Blk.carry (by repeat (with_reducible first | assumption | apply Blk.drewN | apply Blk.drew | apply Blk.alloc)) hb_w4
  have Bb_ : Blk w4 (w.heap.size + 1) 24 #[.int .u64 (hi b), .int .u64 (lo b)] := Blk.carry (by repeat (with_reducible first | assumption | apply Blk.drewN | apply Blk.drew | apply Blk.alloc)) hb_w4
  have Bc_ : Blk w4 (w.heap.size + 1 + 1) 24 #[.int .u64 (hi c), .int .u64 (lo c)] := Blk.carry (by repeat (with_reducible first | assumption | apply Blk.drewN | apply Blk.drew | apply Blk.alloc)) hb_w4
  have Bx_ : Blk w4 w2.heap.size 24 #[.int .u64 (hi (sm a b)), .int .u64 (lo (sm a b))] := Blk.carry (by repeat (with_reducible first | assumption | apply Blk.drewN | apply Blk.drew | apply Blk.alloc)) hb_w4
  have By_ : Blk w4 w3.heap.size 24 #[.int .u64 (hi (sm a b)), .int .u64 (lo (sm a b))] := Blk.carry (by repeat (with_reducible first | assumption | apply Blk.drewN | apply Blk.drew | apply Blk.alloc)) hb_w4
  clear ca0 ca1 la Ba cb0 cb1 lb Bb cc0 cc1 lc Bc cx0 cx1 lx Bx By
  have Ba := Ba_
  clear Ba_
  have Bb := Bb_
  clear Bb_
  have Bc := Bc_
  clear Bc_
  have Bx := Bx_
  clear Bx_
  have By := By_
  clear By_
  have Bu : Blk (w4.alloc (.cells #[.int .u64 (hi (sm3 a b c)), .int .u64 (lo (sm3 a b c))] 24)) w4.heap.size 24 #[.int .u64 (hi (sm3 a b c)), .int .u64 (lo (sm3 a b c))] := Blk.new _ _ _
  have ca0 := cell_of0 Ba
  have ca1 := cell_of1 Ba
  have la := Ba.lt
  have cb0 := cell_of0 Bb
  have cb1 := cell_of1 Bb
  have lb := Bb.lt
  have cc0 := cell_of0 Bc
  have cc1 := cell_of1 Bc
  have lc := Bc.lt
  have cx0 := cell_of0 Bx
  have cx1 := cell_of1 Bx
  have lx := Bx.lt
  have cy0 := cell_of0 By
  have cy1 := cell_of1 By
  have ly := By.lt
  go_wp2_with fail
  refine (sum3_any' a b c _ _ _ ha hb hc (threes_new _ _ c a b)).mono ?_
  rintro e w5 ⟨rfl, hb_w5⟩
  have Ba_ : Blk w5 w.heap.size 24 #[.int .u64 (hi a), .int .u64 (lo a)] := Blk.carry (by repeat (with_reducible first | assumption | apply Blk.drewN | apply Blk.drew | apply Blk.alloc)) hb_w5
  have Bb_ : Blk w5 (w.heap.size + 1) 24 #[.int .u64 (hi b), .int .u64 (lo b)] := Blk.carry (by repeat (with_reducible first | assumption | apply Blk.drewN | apply Blk.drew | apply Blk.alloc)) hb_w5
  have Bc_ : Blk w5 (w.heap.size + 1 + 1) 24 #[.int .u64 (hi c), .int .u64 (lo c)] := Blk.carry (by repeat (with_reducible first | assumption | apply Blk.drewN | apply Blk.drew | apply Blk.alloc)) hb_w5
  have Bx_ : Blk w5 w2.heap.size 24 #[.int .u64 (hi (sm a b)), .int .u64 (lo (sm a b))] := Blk.carry (by repeat (with_reducible first | assumption | apply Blk.drewN | apply Blk.drew | apply Blk.alloc)) hb_w5
  have By_ : Blk w5 w3.heap.size 24 #[.int .u64 (hi (sm a b)), .int .u64 (lo (sm a b))] := Blk.carry (by repeat (with_reducible first | assumption | apply Blk.drewN | apply Blk.drew | apply Blk.alloc)) hb_w5
  have Bu_ : Blk w5 w4.heap.size 24 #[.int .u64 (hi (sm3 a b c)), .int .u64 (lo (sm3 a b c))] := Blk.carry (by repeat (with_reducible first | assumption | apply Blk.drewN | apply Blk.drew | apply Blk.alloc)) hb_w5
  clear ca0 ca1 la Ba cb0 cb1 lb Bb cc0 cc1 lc Bc cx0 cx1 lx Bx cy0 cy1 ly By Bu
  have Ba := Ba_
  clear Ba_
  have Bb := Bb_
  clear Bb_
  have Bc := Bc_
  clear Bc_
  have Bx := Bx_
  clear Bx_
  have By := By_
  clear By_
  have Bu := Bu_
  clear Bu_
  have Bv : Blk (w5.alloc (.cells #[.int .u64 (hi (sm3 a b c)), .int .u64 (lo (sm3 a b c))] 24)) w5.heap.size 24 #[.int .u64 (hi (sm3 a b c)), .int .u64 (lo (sm3 a b c))] := Blk.new _ _ _
  have hlist : Has w [(w.heap.size, hi a, lo a), ((w.heap.size + 1), hi b, lo b), ((w.heap.size + 1 + 1), hi c, lo c), (w2.heap.size, hi (sm a b), lo (sm a b)), (w3.heap.size, hi (sm a b), lo (sm a b)), (w4.heap.size, hi (sm3 a b c), lo (sm3 a b c)), (w5.heap.size, hi (sm3 a b c), lo (sm3 a b c))] (w5.alloc (.cells #[.int .u64 (hi (sm3 a b c)), .int .u64 (lo (sm3 a b c))] 24)).drew := ⟨by
      intro x hx
      simp only [List.mem_cons, List.mem_nil_iff, or_false] at hx
      rcases hx with rfl | rfl | rfl | rfl | rfl | rfl | rfl <;> (repeat (with_reducible first | assumption | apply Blk.drewN | apply Blk.drew | apply Blk.alloc)), by
      repeat (with_reducible first | exact Below.refl _ _ | assumption | refine below_al ?_ _ | refine below_set ?_ (by omega) | refine below_drewN ?_ | refine below_dr ?_ | refine below_on ?_ (by assumption))⟩
  have ca0 := cell_of0 Ba
  have ca1 := cell_of1 Ba
  have la := Ba.lt
  have cb0 := cell_of0 Bb
  have cb1 := cell_of1 Bb
  have lb := Bb.lt
  have cc0 := cell_of0 Bc
  have cc1 := cell_of1 Bc
  have lc := Bc.lt
  have cx0 := cell_of0 Bx
  have cx1 := cell_of1 Bx
  have lx := Bx.lt
  have cy0 := cell_of0 By
  have cy1 := cell_of1 By
  have ly := By.lt
  have cu0 := cell_of0 Bu
  have cu1 := cell_of1 Bu
  have lu := Bu.lt
  go_wp2_with fail
  rcases ok_cases a b with hk | ⟨hk, hl⟩
  · rw [hk]
    refine region_class (C := Has w [(w.heap.size, hi a, lo a), ((w.heap.size + 1), hi b, lo b), ((w.heap.size + 1 + 1), hi c, lo c), (w2.heap.size, hi (sm a b), lo (sm a b)), (w3.heap.size, hi (sm a b), lo (sm a b)), (w4.heap.size, hi (sm3 a b c), lo (sm3 a b c)), (w5.heap.size, hi (sm3 a b c), lo (sm3 a b c))]) (by kernel_rfl) (by kernel_rfl) hlist ?_
    try simp only [List.append]
    go_big_quiet_want; refine quiet_load _ 3 rfl rfl rfl ?_; go_big_quiet_on; refine wq_cast (by simp only [Act.put, List.setIfInBounds_toArray, List.set_cons_zero, List.set_cons_succ]; rfl) ?_
    go_big_quiet_want; refine quiet_load _ 4 rfl rfl rfl ?_; go_big_quiet_on; refine wq_cast (by simp only [Act.put, List.setIfInBounds_toArray, List.set_cons_zero, List.set_cons_succ]; rfl) ?_
    go_big_quiet_want; refine quiet_cmp _ _ rfl rfl rfl (self2 _ _) ?_; go_big_quiet_on; refine wq_cast (by simp only [Act.put, List.setIfInBounds_toArray, List.set_cons_zero, List.set_cons_succ]; rfl) ?_
    go_big_quiet_want; go_big_quiet_op; first | go_big_quiet_on | (refine ⟨_, fun _ _ => rfl, ?_⟩; go_big_quiet_on)
    first | go_big_quiet_skip | (go_big_quiet_want; go_big_quiet_op; first | go_big_quiet_on | (refine ⟨_, fun _ _ => rfl, ?_⟩; go_big_quiet_on))
    first | go_big_quiet_skip | (go_big_quiet_want; go_big_quiet_op; first | go_big_quiet_on | (refine ⟨_, fun _ _ => rfl, ?_⟩; go_big_quiet_on))
    first | go_big_quiet_skip | (go_big_quiet_want; go_big_quiet_op; first | go_big_quiet_on | (refine ⟨_, fun _ _ => rfl, ?_⟩; go_big_quiet_on))
    go_big_quiet_want; go_big_quiet_op; first | go_big_quiet_on | (refine ⟨_, fun _ _ => rfl, ?_⟩; go_big_quiet_on)
    go_big_quiet_want; go_big_quiet_op; first | go_big_quiet_on | (refine ⟨_, fun _ _ => rfl, ?_⟩; go_big_quiet_on)
    first | go_big_quiet_skip | (go_big_quiet_want; refine quiet_load _ 5 rfl rfl rfl ?_; go_big_quiet_on; refine wq_cast (by simp only [Act.put, List.setIfInBounds_toArray, List.set_cons_zero, List.set_cons_succ]; rfl) ?_)
    first | go_big_quiet_skip | (go_big_quiet_want; refine quiet_load _ 6 rfl rfl rfl ?_; go_big_quiet_on; refine wq_cast (by simp only [Act.put, List.setIfInBounds_toArray, List.set_cons_zero, List.set_cons_succ]; rfl) ?_)
    first | go_big_quiet_skip | (go_big_quiet_want; refine quiet_cmp _ _ rfl rfl rfl (self2 _ _) ?_; go_big_quiet_on; refine wq_cast (by simp only [Act.put, List.setIfInBounds_toArray, List.set_cons_zero, List.set_cons_succ]; rfl) ?_)
    go_big_quiet_want; go_big_quiet_op; first | go_big_quiet_on | (refine ⟨_, fun _ _ => rfl, ?_⟩; go_big_quiet_on)
    go_big_quiet_want; go_big_quiet_op; first | go_big_quiet_on | (refine ⟨_, fun _ _ => rfl, ?_⟩; go_big_quiet_on)
    first | go_big_quiet_skip | (go_big_quiet_want; go_big_quiet_op; first | go_big_quiet_on | (refine ⟨_, fun _ _ => rfl, ?_⟩; go_big_quiet_on))
    first | go_big_quiet_skip | (go_big_quiet_want; go_big_quiet_op; first | go_big_quiet_on | (refine ⟨_, fun _ _ => rfl, ?_⟩; go_big_quiet_on))
    first | go_big_quiet_skip | (go_big_quiet_want; go_big_quiet_op; first | go_big_quiet_on | (refine ⟨_, fun _ _ => rfl, ?_⟩; go_big_quiet_on))
    go_big_quiet_want; go_big_quiet_op; first | go_big_quiet_on | (refine ⟨_, fun _ _ => rfl, ?_⟩; go_big_quiet_on)
    go_big_quiet_want; go_big_quiet_op; first | go_big_quiet_on | (refine ⟨_, fun _ _ => rfl, ?_⟩; go_big_quiet_on)
    first | go_big_quiet_skip | (go_big_quiet_want; go_big_quiet_op; first | go_big_quiet_on | (refine ⟨_, fun _ _ => rfl, ?_⟩; go_big_quiet_on))
    first | go_big_quiet_skip | (go_big_quiet_want; go_big_quiet_op; first | go_big_quiet_on | (refine ⟨_, fun _ _ => rfl, ?_⟩; go_big_quiet_on))
    first | go_big_quiet_skip | (go_big_quiet_want; go_big_quiet_op; first | go_big_quiet_on | (refine ⟨_, fun _ _ => rfl, ?_⟩; go_big_quiet_on))
    first | go_big_quiet_skip | (go_big_quiet_want; refine quiet_load _ 3 rfl rfl rfl ?_; go_big_quiet_on; refine wq_cast (by simp only [Act.put, List.setIfInBounds_toArray, List.set_cons_zero, List.set_cons_succ]; rfl) ?_)
    first | go_big_quiet_skip | (go_big_quiet_want; refine quiet_load _ 0 rfl rfl rfl ?_; go_big_quiet_on; refine wq_cast (by simp only [Act.put, List.setIfInBounds_toArray, List.set_cons_zero, List.set_cons_succ]; rfl) ?_)
    first | go_big_quiet_skip | (go_big_quiet_want; fail)
    first | go_big_quiet_skip | (go_big_quiet_want; go_big_quiet_op; first | go_big_quiet_on | (refine ⟨_, fun _ _ => rfl, ?_⟩; go_big_quiet_on))
    first | go_big_quiet_skip | (go_big_quiet_want; go_big_quiet_op; first | go_big_quiet_on | (refine ⟨_, fun _ _ => rfl, ?_⟩; go_big_quiet_on))
    go_big_quiet_want; go_big_quiet_op; first | go_big_quiet_on | (refine ⟨_, fun _ _ => rfl, ?_⟩; go_big_quiet_on)
    go_big_quiet_want; go_big_quiet_op; first | go_big_quiet_on | (refine ⟨_, fun _ _ => rfl, ?_⟩; go_big_quiet_on)
    first | go_big_quiet_skip | (go_big_quiet_want; refine quiet_load _ 0 rfl rfl rfl ?_; go_big_quiet_on; refine wq_cast (by simp only [Act.put, List.setIfInBounds_toArray, List.set_cons_zero, List.set_cons_succ]; rfl) ?_)
    first | go_big_quiet_skip | (go_big_quiet_want; refine quiet_load _ 1 rfl rfl rfl ?_; go_big_quiet_on; refine wq_cast (by simp only [Act.put, List.setIfInBounds_toArray, List.set_cons_zero, List.set_cons_succ]; rfl) ?_)
    first | go_big_quiet_skip | (go_big_quiet_want; refine quiet_call2 _ rfl Tryd.func18 (by kernel_rfl) (by kernel_rfl) (by simp only [List.map_toArray, List.map]; rfl) (fun w' hw => (mn_any a b w').mono fun e w'' h => ⟨h.1, hw.next h.2⟩) ?_; go_big_quiet_on; refine wq_cast (by simp only [Act.put, List.setIfInBounds_toArray, List.set_cons_zero, List.set_cons_succ]; rfl) ?_)
    first | go_big_quiet_skip | (go_big_quiet_want; refine quiet_load _ 1 rfl rfl rfl ?_; go_big_quiet_on; refine wq_cast (by simp only [Act.put, List.setIfInBounds_toArray, List.set_cons_zero, List.set_cons_succ]; rfl) ?_)
    first | go_big_quiet_skip | (go_big_quiet_want; refine quiet_load _ 0 rfl rfl rfl ?_; go_big_quiet_on; refine wq_cast (by simp only [Act.put, List.setIfInBounds_toArray, List.set_cons_zero, List.set_cons_succ]; rfl) ?_)
    first | go_big_quiet_skip | (go_big_quiet_want; refine quiet_call2 _ rfl Tryd.func18 (by kernel_rfl) (by kernel_rfl) (by simp only [List.map_toArray, List.map]; rfl) (fun w' hw => (mn_any' a b w').mono fun e w'' h => ⟨h.1, hw.next h.2⟩) ?_; go_big_quiet_on; refine wq_cast (by simp only [Act.put, List.setIfInBounds_toArray, List.set_cons_zero, List.set_cons_succ]; rfl) ?_)
    first | go_big_quiet_skip | (go_big_quiet_want; refine quiet_cmp _ _ rfl rfl rfl (self2 _ _) ?_; go_big_quiet_on; refine wq_cast (by simp only [Act.put, List.setIfInBounds_toArray, List.set_cons_zero, List.set_cons_succ]; rfl) ?_)
    go_big_quiet_want; go_big_quiet_op; first | go_big_quiet_on | (refine ⟨_, fun _ _ => rfl, ?_⟩; go_big_quiet_on)
    go_big_quiet_want; go_big_quiet_op; first | go_big_quiet_on | (refine ⟨_, fun _ _ => rfl, ?_⟩; go_big_quiet_on)
    refine wpQuiet_nil ?_
    intro w6 hw6
    go_wp2
    go_ret
    exact ⟨rfl, hw6.bel⟩
  · rw [hk]
    have HL := Lib.hid hl
    clear hl
    refine region_class (C := Has w [(w.heap.size, hi a, lo a), ((w.heap.size + 1), hi b, lo b), ((w.heap.size + 1 + 1), hi c, lo c), (w2.heap.size, hi (sm a b), lo (sm a b)), (w3.heap.size, hi (sm a b), lo (sm a b)), (w4.heap.size, hi (sm3 a b c), lo (sm3 a b c)), (w5.heap.size, hi (sm3 a b c), lo (sm3 a b c))]) (by kernel_rfl) (by kernel_rfl) hlist ?_
    try simp only [List.append]
    go_big_quiet_want; refine quiet_load _ 3 rfl rfl rfl ?_; go_big_quiet_on; refine wq_cast (by simp only [Act.put, List.setIfInBounds_toArray, List.set_cons_zero, List.set_cons_succ]; rfl) ?_
    go_big_quiet_want; refine quiet_load _ 4 rfl rfl rfl ?_; go_big_quiet_on; refine wq_cast (by simp only [Act.put, List.setIfInBounds_toArray, List.set_cons_zero, List.set_cons_succ]; rfl) ?_
    go_big_quiet_want; refine quiet_cmp _ _ rfl rfl rfl (self2 _ _) ?_; go_big_quiet_on; refine wq_cast (by simp only [Act.put, List.setIfInBounds_toArray, List.set_cons_zero, List.set_cons_succ]; rfl) ?_
    go_big_quiet_want; go_big_quiet_op; first | go_big_quiet_on | (refine ⟨_, fun _ _ => rfl, ?_⟩; go_big_quiet_on)
    first | go_big_quiet_skip | (go_big_quiet_want; go_big_quiet_op; first | go_big_quiet_on | (refine ⟨_, fun _ _ => rfl, ?_⟩; go_big_quiet_on))
    first | go_big_quiet_skip | (go_big_quiet_want; go_big_quiet_op; first | go_big_quiet_on | (refine ⟨_, fun _ _ => rfl, ?_⟩; go_big_quiet_on))
    first | go_big_quiet_skip | (go_big_quiet_want; go_big_quiet_op; first | go_big_quiet_on | (refine ⟨_, fun _ _ => rfl, ?_⟩; go_big_quiet_on))
    go_big_quiet_want; go_big_quiet_op; first | go_big_quiet_on | (refine ⟨_, fun _ _ => rfl, ?_⟩; go_big_quiet_on)
    go_big_quiet_want; go_big_quiet_op; first | go_big_quiet_on | (refine ⟨_, fun _ _ => rfl, ?_⟩; go_big_quiet_on)
    first | go_big_quiet_skip | (go_big_quiet_want; refine quiet_load _ 5 rfl rfl rfl ?_; go_big_quiet_on; refine wq_cast (by simp only [Act.put, List.setIfInBounds_toArray, List.set_cons_zero, List.set_cons_succ]; rfl) ?_)
    first | go_big_quiet_skip | (go_big_quiet_want; refine quiet_load _ 6 rfl rfl rfl ?_; go_big_quiet_on; refine wq_cast (by simp only [Act.put, List.setIfInBounds_toArray, List.set_cons_zero, List.set_cons_succ]; rfl) ?_)
    first | go_big_quiet_skip | (go_big_quiet_want; refine quiet_cmp _ _ rfl rfl rfl (self2 _ _) ?_; go_big_quiet_on; refine wq_cast (by simp only [Act.put, List.setIfInBounds_toArray, List.set_cons_zero, List.set_cons_succ]; rfl) ?_)
    go_big_quiet_want; go_big_quiet_op; first | go_big_quiet_on | (refine ⟨_, fun _ _ => rfl, ?_⟩; go_big_quiet_on)
    go_big_quiet_want; go_big_quiet_op; first | go_big_quiet_on | (refine ⟨_, fun _ _ => rfl, ?_⟩; go_big_quiet_on)
    first | go_big_quiet_skip | (go_big_quiet_want; go_big_quiet_op; first | go_big_quiet_on | (refine ⟨_, fun _ _ => rfl, ?_⟩; go_big_quiet_on))
    first | go_big_quiet_skip | (go_big_quiet_want; go_big_quiet_op; first | go_big_quiet_on | (refine ⟨_, fun _ _ => rfl, ?_⟩; go_big_quiet_on))
    first | go_big_quiet_skip | (go_big_quiet_want; go_big_quiet_op; first | go_big_quiet_on | (refine ⟨_, fun _ _ => rfl, ?_⟩; go_big_quiet_on))
    go_big_quiet_want; go_big_quiet_op; first | go_big_quiet_on | (refine ⟨_, fun _ _ => rfl, ?_⟩; go_big_quiet_on)
    go_big_quiet_want; go_big_quiet_op; first | go_big_quiet_on | (refine ⟨_, fun _ _ => rfl, ?_⟩; go_big_quiet_on)
    first | go_big_quiet_skip | (go_big_quiet_want; go_big_quiet_op; first | go_big_quiet_on | (refine ⟨_, fun _ _ => rfl, ?_⟩; go_big_quiet_on))
    first | go_big_quiet_skip | (go_big_quiet_want; go_big_quiet_op; first | go_big_quiet_on | (refine ⟨_, fun _ _ => rfl, ?_⟩; go_big_quiet_on))
    first | go_big_quiet_skip | (go_big_quiet_want; go_big_quiet_op; first | go_big_quiet_on | (refine ⟨_, fun _ _ => rfl, ?_⟩; go_big_quiet_on))
    first | go_big_quiet_skip | (go_big_quiet_want; refine quiet_load _ 3 rfl rfl rfl ?_; go_big_quiet_on; refine wq_cast (by simp only [Act.put, List.setIfInBounds_toArray, List.set_cons_zero, List.set_cons_succ]; rfl) ?_)
    first | go_big_quiet_skip | (go_big_quiet_want; refine quiet_load _ 0 rfl rfl rfl ?_; go_big_quiet_on; refine wq_cast (by simp only [Act.put, List.setIfInBounds_toArray, List.set_cons_zero, List.set_cons_succ]; rfl) ?_)
    first | go_big_quiet_skip | (go_big_quiet_want; refine quiet_call2 _ rfl Tryd.func17 (by kernel_rfl) (by kernel_rfl) (by simp only [List.map_toArray, List.map]; rfl) (fun w' hw => (less_no (sm a b) a w' HL.out).mono fun e w'' h => ⟨h.1, hw.next h.2⟩) ?_; go_big_quiet_on; refine wq_cast (by simp only [Act.put, List.setIfInBounds_toArray, List.set_cons_zero, List.set_cons_succ]; rfl) ?_)
    first | go_big_quiet_skip | (go_big_quiet_want; go_big_quiet_op; first | go_big_quiet_on | (refine ⟨_, fun _ _ => rfl, ?_⟩; go_big_quiet_on))
    first | go_big_quiet_skip | (go_big_quiet_want; go_big_quiet_op; first | go_big_quiet_on | (refine ⟨_, fun _ _ => rfl, ?_⟩; go_big_quiet_on))
    go_big_quiet_want; go_big_quiet_op; first | go_big_quiet_on | (refine ⟨_, fun _ _ => rfl, ?_⟩; go_big_quiet_on)
    go_big_quiet_want; go_big_quiet_op; first | go_big_quiet_on | (refine ⟨_, fun _ _ => rfl, ?_⟩; go_big_quiet_on)
    first | go_big_quiet_skip | (go_big_quiet_want; refine quiet_load _ 0 rfl rfl rfl ?_; go_big_quiet_on; refine wq_cast (by simp only [Act.put, List.setIfInBounds_toArray, List.set_cons_zero, List.set_cons_succ]; rfl) ?_)
    first | go_big_quiet_skip | (go_big_quiet_want; refine quiet_load _ 1 rfl rfl rfl ?_; go_big_quiet_on; refine wq_cast (by simp only [Act.put, List.setIfInBounds_toArray, List.set_cons_zero, List.set_cons_succ]; rfl) ?_)
    first | go_big_quiet_skip | (go_big_quiet_want; refine quiet_call2 _ rfl Tryd.func18 (by kernel_rfl) (by kernel_rfl) (by simp only [List.map_toArray, List.map]; rfl) (fun w' hw => (mn_any a b w').mono fun e w'' h => ⟨h.1, hw.next h.2⟩) ?_; go_big_quiet_on; refine wq_cast (by simp only [Act.put, List.setIfInBounds_toArray, List.set_cons_zero, List.set_cons_succ]; rfl) ?_)
    first | go_big_quiet_skip | (go_big_quiet_want; refine quiet_load _ 1 rfl rfl rfl ?_; go_big_quiet_on; refine wq_cast (by simp only [Act.put, List.setIfInBounds_toArray, List.set_cons_zero, List.set_cons_succ]; rfl) ?_)
    first | go_big_quiet_skip | (go_big_quiet_want; refine quiet_load _ 0 rfl rfl rfl ?_; go_big_quiet_on; refine wq_cast (by simp only [Act.put, List.setIfInBounds_toArray, List.set_cons_zero, List.set_cons_succ]; rfl) ?_)
    first | go_big_quiet_skip | (go_big_quiet_want; refine quiet_call2 _ rfl Tryd.func18 (by kernel_rfl) (by kernel_rfl) (by simp only [List.map_toArray, List.map]; rfl) (fun w' hw => (mn_any' a b w').mono fun e w'' h => ⟨h.1, hw.next h.2⟩) ?_; go_big_quiet_on; refine wq_cast (by simp only [Act.put, List.setIfInBounds_toArray, List.set_cons_zero, List.set_cons_succ]; rfl) ?_)
    first | go_big_quiet_skip | (go_big_quiet_want; refine quiet_cmp _ _ rfl rfl rfl (self2 _ _) ?_; go_big_quiet_on; refine wq_cast (by simp only [Act.put, List.setIfInBounds_toArray, List.set_cons_zero, List.set_cons_succ]; rfl) ?_)
    go_big_quiet_want; go_big_quiet_op; first | go_big_quiet_on | (refine ⟨_, fun _ _ => rfl, ?_⟩; go_big_quiet_on)
    go_big_quiet_want; go_big_quiet_op; first | go_big_quiet_on | (refine ⟨_, fun _ _ => rfl, ?_⟩; go_big_quiet_on)
    refine wpQuiet_nil ?_
    intro w6 hw6
    go_wp2
    go_ret
    exact ⟨rfl, hw6.bel⟩
theorem walkWideLaws (x0 : Int) (v0 : (Lit.int .u64 x0).wf = true) (x1 : Int) (v1 : (Lit.int .u64 x1).wf = true) (y0 : Int) (u0 : (Lit.int .u64 y0).wf = true) (y1 : Int) (u1 : (Lit.int .u64 y1).wf = true) (z0 : Int) (t0 : (Lit.int .u64 z0).wf = true) (z1 : Int) (t1 : (Lit.int .u64 z1).wf = true) (w : World) (hm : MostIs w) :
    Calls Tryd.prog 5 #[.agg #[.int .u64 x0, .int .u64 x1], .agg #[.int .u64 y0, .int .u64 y1], .agg #[.int .u64 z0, .int .u64 z1]] w fun e w' => e = .returned (.bool true) ∧ Below w.heap.size w w' := by
  obtain ⟨a, ha, rfl, rfl⟩ := num_of x0 x1 v0 v1
  obtain ⟨b, hb, rfl, rfl⟩ := num_of y0 y1 u0 u1
  obtain ⟨c, hc, rfl, rfl⟩ := num_of z0 z1 t0 t1
  exact laws_in a b c w ha hb hc hm
end Go.Proofs.YtjjlfkbgieloeaaDoor
