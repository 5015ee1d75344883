/- The walk of the law WideOrder, one case. Conditions: those of its row. -/
import Derived.Test.YtjjlfkbgieloeaaDoorClass2
namespace Go.Proofs.YtjjlfkbgieloeaaDoor
open Go.RowKit Go.BigFrame
set_option maxHeartbeats 4000000 in
set_option maxRecDepth 100000 in
theorem order_Ln (a b c : Nat) (w : World) (hm : MostIs w) (H15 : ∀ w, Calls Tryd.prog 15 #[A a, A b] w fun e w' => e = .returned (.bool true) ∧ Below w.heap.size w w') (H16 : ∀ w, Calls Tryd.prog 16 #[A a, A b] w fun e w' => e = .returned (.int .i64 (-1)) ∧ Below w.heap.size w w') (H16b : ∀ w, Calls Tryd.prog 16 #[A b, A a] w fun e w' => e = .returned (.int .i64 1) ∧ Below w.heap.size w w') (H17 : ∀ w, Calls Tryd.prog 17 #[A a, A b] w fun e w' => e = .returned (.bool true) ∧ Below w.heap.size w w') (H18 : ∀ w, Calls Tryd.prog 18 #[A a, A b] w fun e w' => e = .returned (.agg #[.int .u64 (hi a), .int .u64 (lo a)]) ∧ Below w.heap.size w w') (H15b : ∀ w, Calls Tryd.prog 15 #[A b, A c] w fun e w' => e = .returned (.bool false) ∧ Below w.heap.size w w') (hcmp : (hi a == hi b && lo a == lo b) = false) (hmm : (hi a == hi a && lo a == lo a) = true) (HM : Go.RowKit.Hid (¬ M - 1 < a)) :
    Calls Tryd.prog 3 #[A a, A b, A c] w fun e w' => e = .returned (.bool true) ∧ Below w.heap.size w w' := by
  obtain ⟨Ba, Bb, Bc⟩ := new3 w a b c
  have hm0 : MostIs (((w.alloc (.cells #[.int .u64 (hi a), .int .u64 (lo a)] 24)).alloc (.cells #[.int .u64 (hi b), .int .u64 (lo b)] 24)).alloc (.cells #[.int .u64 (hi c), .int .u64 (lo c)] 24)) := ((hm.below (below_al (Below.refl _ _) _)).below (below_al (Below.refl _ _) _)).below (below_al (Below.refl _ _) _)
  clear hm
  go_enter Tryd.func3, Tryd.ntmps3
  go_wp2_with fail
  refine (alive_true _ hm0).mono ?_
  rintro e w1 ⟨rfl, hb_w1⟩
  have Ba_ : Blk w1 w.heap.size 24 #[.int .u64 (hi a), .int .u64 (lo a)] := Blk.carry (by repeat (with_reducible first | assumption | apply Blk.drewN | apply Blk.drew | apply Blk.alloc)) hb_w1
  have Bb_ : Blk w1 (w.heap.size + 1) 24 #[.int .u64 (hi b), .int .u64 (lo b)] := Blk.carry (by repeat (with_reducible first | assumption | apply Blk.drewN | apply Blk.drew | apply Blk.alloc)) hb_w1
  have Bc_ : Blk w1 (w.heap.size + 1 + 1) 24 #[.int .u64 (hi c), .int .u64 (lo c)] := Blk.carry (by repeat (with_reducible first | assumption | apply Blk.drewN | apply Blk.drew | apply Blk.alloc)) hb_w1
  clear Ba Bb Bc
  have Ba := Ba_
  clear Ba_
  have Bb := Bb_
  clear Bb_
  have Bc := Bc_
  clear Bc_
  have ca0 := cell_of0 Ba
  have ca1 := cell_of1 Ba
  have la := Ba.lt
  have cb0 := cell_of0 Bb
  have cb1 := cell_of1 Bb
  have lb := Bb.lt
  have cc0 := cell_of0 Bc
  have cc1 := cell_of1 Bc
  have lc := Bc.lt
  have hm1 := hm0.below hb_w1
  clear hm0
  go_wp2_with fail
  refine (H15 _).mono ?_
  rintro e w2 ⟨rfl, hb_w2⟩
  have Ba_ : Blk w2 w.heap.size 24 #[.int .u64 (hi a), .int .u64 (lo a)] := Blk.carry (by repeat (with_reducible first | assumption | apply Blk.drewN | apply Blk.drew | apply Blk.alloc)) hb_w2
  have Bb_ : Blk w2 (w.heap.size + 1) 24 #[.int .u64 (hi b), .int .u64 (lo b)] := Blk.carry (by repeat (with_reducible first | assumption | apply Blk.drewN | apply Blk.drew | apply Blk.alloc)) hb_w2
  have Bc_ : Blk w2 (w.heap.size + 1 + 1) 24 #[.int .u64 (hi c), .int .u64 (lo c)] := Blk.carry (by repeat (with_reducible first | assumption | apply Blk.drewN | apply Blk.drew | apply Blk.alloc)) hb_w2
  clear ca0 ca1 la Ba cb0 cb1 lb Bb cc0 cc1 lc Bc
  have Ba := Ba_
  clear Ba_
  have Bb := Bb_
  clear Bb_
  have Bc := Bc_
  clear Bc_
  have ca0 := cell_of0 Ba
  have ca1 := cell_of1 Ba
  have la := Ba.lt
  have cb0 := cell_of0 Bb
  have cb1 := cell_of1 Bb
  have lb := Bb.lt
  have cc0 := cell_of0 Bc
  have cc1 := cell_of1 Bc
  have lc := Bc.lt
  have hm2 := hm1.below hb_w2
  clear hm1
  go_wp2_with fail
  refine (H16 _).mono ?_
  rintro e w3 ⟨rfl, hb_w3⟩
  have Ba_ : Blk w3 w.heap.size 24 #[.int .u64 (hi a), .int .u64 (lo a)] := Blk.carry (by repeat (with_reducible first | assumption | apply Blk.drewN | apply Blk.drew | apply Blk.alloc)) hb_w3
  have Bb_ : Blk w3 (w.heap.size + 1) 24 #[.int .u64 (hi b), .int .u64 (lo b)] := Blk.carry (by repeat (with_reducible first | assumption | apply Blk.drewN | apply Blk.drew | apply Blk.alloc)) hb_w3
  have Bc_ : Blk w3 (w.heap.size + 1 + 1) 24 #[.int .u64 (hi c), .int .u64 (lo c)] := Blk.carry (by repeat (with_reducible first | assumption | apply Blk.drewN | apply Blk.drew | apply Blk.alloc)) hb_w3
  clear ca0 ca1 la Ba cb0 cb1 lb Bb cc0 cc1 lc Bc
  have Ba := Ba_
  clear Ba_
  have Bb := Bb_
  clear Bb_
  have Bc := Bc_
  clear Bc_
  have ca0 := cell_of0 Ba
  have ca1 := cell_of1 Ba
  have la := Ba.lt
  have cb0 := cell_of0 Bb
  have cb1 := cell_of1 Bb
  have lb := Bb.lt
  have cc0 := cell_of0 Bc
  have cc1 := cell_of1 Bc
  have lc := Bc.lt
  have hm3 := hm2.below hb_w3
  clear hm2
  go_wp2_with fail
  have Bm : Blk (w3.alloc (.cells #[.int .u64 (hi a), .int .u64 (lo a)] 24)) w3.heap.size 24 #[.int .u64 (hi a), .int .u64 (lo a)] := Blk.new _ _ _
  have hlist : HasM w [(w.heap.size, hi a, lo a), ((w.heap.size + 1), hi b, lo b), ((w.heap.size + 1 + 1), hi c, lo c), (w3.heap.size, hi a, lo a)] (w3.alloc (.cells #[.int .u64 (hi a), .int .u64 (lo a)] 24)).drew := ⟨⟨by
      intro x hx
      simp only [List.mem_cons, List.mem_nil_iff, or_false] at hx
      rcases hx with rfl | rfl | rfl | rfl <;> (repeat (with_reducible first | assumption | apply Blk.drewN | apply Blk.drew | apply Blk.alloc)), by
      repeat (with_reducible first | exact Below.refl _ _ | assumption | refine below_al ?_ _ | refine below_set ?_ (by omega) | refine below_drewN ?_ | refine below_dr ?_ | refine below_on ?_ (by assumption))⟩, (hm3.below (below_al (Below.refl _ _) _)).below (below_dr (Below.refl _ _))⟩
  refine region_class (C := HasM w [(w.heap.size, hi a, lo a), ((w.heap.size + 1), hi b, lo b), ((w.heap.size + 1 + 1), hi c, lo c), (w3.heap.size, hi a, lo a)]) (by kernel_rfl) (by kernel_rfl) hlist ?_
  simp only [List.append]
  go_big_quiet_want; refine quiet_loadm _ 0 rfl rfl rfl ?_; go_big_quiet_on; refine wq_cast (by simp only [Act.put, List.setIfInBounds_toArray, List.set_cons_zero, List.set_cons_succ]; rfl) ?_
  go_big_quiet_want; refine quiet_loadm _ 1 rfl rfl rfl ?_; go_big_quiet_on; refine wq_cast (by simp only [Act.put, List.setIfInBounds_toArray, List.set_cons_zero, List.set_cons_succ]; rfl) ?_
  go_big_quiet_want; refine quiet_call2 _ rfl Tryd.func17 (by kernel_rfl) (by kernel_rfl) (by simp only [List.map_toArray, List.map]; rfl) (fun w' hw => (H17 w').mono fun e w'' h => ⟨h.1, hw.next h.2⟩) ?_; go_big_quiet_on; refine wq_cast (by simp only [Act.put, List.setIfInBounds_toArray, List.set_cons_zero, List.set_cons_succ]; rfl) ?_
  go_big_quiet_want; go_big_quiet_op; first | go_big_quiet_on | (refine ⟨_, fun _ _ => rfl, ?_⟩; go_big_quiet_on)
  go_big_quiet_want; go_big_quiet_op; first | go_big_quiet_on | (refine ⟨_, fun _ _ => rfl, ?_⟩; go_big_quiet_on)
  go_big_quiet_want; go_big_quiet_op; first | go_big_quiet_on | (refine ⟨_, fun _ _ => rfl, ?_⟩; go_big_quiet_on)
  first | go_big_quiet_skip | (go_big_quiet_want; go_big_quiet_op; first | go_big_quiet_on | (refine ⟨_, fun _ _ => rfl, ?_⟩; go_big_quiet_on))
  first | go_big_quiet_skip | (go_big_quiet_want; go_big_quiet_op; first | go_big_quiet_on | (refine ⟨_, fun _ _ => rfl, ?_⟩; go_big_quiet_on))
  first | go_big_quiet_skip | (go_big_quiet_want; go_big_quiet_op; first | go_big_quiet_on | (refine ⟨_, fun _ _ => rfl, ?_⟩; go_big_quiet_on))
  first | go_big_quiet_skip | (go_big_quiet_want; go_big_quiet_op; first | go_big_quiet_on | (refine ⟨_, fun _ _ => rfl, ?_⟩; go_big_quiet_on))
  go_big_quiet_want; go_big_quiet_op; first | go_big_quiet_on | (refine ⟨_, fun _ _ => rfl, ?_⟩; go_big_quiet_on)
  go_big_quiet_want; go_big_quiet_op; first | go_big_quiet_on | (refine ⟨_, fun _ _ => rfl, ?_⟩; go_big_quiet_on)
  first | go_big_quiet_skip | (go_big_quiet_want; go_big_quiet_op; first | go_big_quiet_on | (refine ⟨_, fun _ _ => rfl, ?_⟩; go_big_quiet_on))
  first | go_big_quiet_skip | (go_big_quiet_want; go_big_quiet_op; first | go_big_quiet_on | (refine ⟨_, fun _ _ => rfl, ?_⟩; go_big_quiet_on))
  first | go_big_quiet_skip | (go_big_quiet_want; refine quiet_loadm _ 0 rfl rfl rfl ?_; go_big_quiet_on; refine wq_cast (by simp only [Act.put, List.setIfInBounds_toArray, List.set_cons_zero, List.set_cons_succ]; rfl) ?_)
  first | go_big_quiet_skip | (go_big_quiet_want; refine quiet_loadm _ 1 rfl rfl rfl ?_; go_big_quiet_on; refine wq_cast (by simp only [Act.put, List.setIfInBounds_toArray, List.set_cons_zero, List.set_cons_succ]; rfl) ?_)
  first | go_big_quiet_skip | (go_big_quiet_want; refine quiet_cmp _ _ rfl rfl rfl (hcmp) ?_; go_big_quiet_on; refine wq_cast (by simp only [Act.put, List.setIfInBounds_toArray, List.set_cons_zero, List.set_cons_succ]; rfl) ?_)
  first | go_big_quiet_skip | (go_big_quiet_want; go_big_quiet_op; first | go_big_quiet_on | (refine ⟨_, fun _ _ => rfl, ?_⟩; go_big_quiet_on))
  go_big_quiet_want; go_big_quiet_op; first | go_big_quiet_on | (refine ⟨_, fun _ _ => rfl, ?_⟩; go_big_quiet_on)
  go_big_quiet_want; go_big_quiet_op; first | go_big_quiet_on | (refine ⟨_, fun _ _ => rfl, ?_⟩; go_big_quiet_on)
  first | go_big_quiet_skip | (go_big_quiet_want; go_big_quiet_op; first | go_big_quiet_on | (refine ⟨_, fun _ _ => rfl, ?_⟩; go_big_quiet_on))
  first | go_big_quiet_skip | (go_big_quiet_want; refine quiet_loadm _ 1 rfl rfl rfl ?_; go_big_quiet_on; refine wq_cast (by simp only [Act.put, List.setIfInBounds_toArray, List.set_cons_zero, List.set_cons_succ]; rfl) ?_)
  first | go_big_quiet_skip | (go_big_quiet_want; refine quiet_loadm _ 0 rfl rfl rfl ?_; go_big_quiet_on; refine wq_cast (by simp only [Act.put, List.setIfInBounds_toArray, List.set_cons_zero, List.set_cons_succ]; rfl) ?_)
  first | go_big_quiet_skip | (go_big_quiet_want; refine quiet_call2 _ rfl Tryd.func16 (by kernel_rfl) (by kernel_rfl) (by simp only [List.map_toArray, List.map]; rfl) (fun w' hw => (H16b w').mono fun e w'' h => ⟨h.1, hw.next h.2⟩) ?_; go_big_quiet_on; refine wq_cast (by simp only [Act.put, List.setIfInBounds_toArray, List.set_cons_zero, List.set_cons_succ]; rfl) ?_)
  first | go_big_quiet_skip | (go_big_quiet_want; go_big_quiet_op; first | go_big_quiet_on | (refine ⟨_, fun _ _ => rfl, ?_⟩; go_big_quiet_on))
  first | go_big_quiet_skip | (go_big_quiet_want; go_big_quiet_op; first | go_big_quiet_on | (refine ⟨_, fun _ _ => rfl, ?_⟩; go_big_quiet_on))
  go_big_quiet_want; go_big_quiet_op; first | go_big_quiet_on | (refine ⟨_, fun _ _ => rfl, ?_⟩; go_big_quiet_on)
  go_big_quiet_want; go_big_quiet_op; first | go_big_quiet_on | (refine ⟨_, fun _ _ => rfl, ?_⟩; go_big_quiet_on)
  first | go_big_quiet_skip | (go_big_quiet_want; go_big_quiet_op; first | go_big_quiet_on | (refine ⟨_, fun _ _ => rfl, ?_⟩; go_big_quiet_on))
  first | go_big_quiet_skip | (go_big_quiet_want; go_big_quiet_op; first | go_big_quiet_on | (refine ⟨_, fun _ _ => rfl, ?_⟩; go_big_quiet_on))
  go_big_quiet_want; go_big_quiet_op; first | go_big_quiet_on | (refine ⟨_, fun _ _ => rfl, ?_⟩; go_big_quiet_on)
  go_big_quiet_want; go_big_quiet_op; first | go_big_quiet_on | (refine ⟨_, fun _ _ => rfl, ?_⟩; go_big_quiet_on)
  first | go_big_quiet_skip | (go_big_quiet_want; go_big_quiet_op; first | go_big_quiet_on | (refine ⟨_, fun _ _ => rfl, ?_⟩; go_big_quiet_on))
  first | go_big_quiet_skip | (go_big_quiet_want; go_big_quiet_op; first | go_big_quiet_on | (refine ⟨_, fun _ _ => rfl, ?_⟩; go_big_quiet_on))
  go_big_quiet_want; go_big_quiet_op; first | go_big_quiet_on | (refine ⟨_, fun _ _ => rfl, ?_⟩; go_big_quiet_on)
  go_big_quiet_want; go_big_quiet_op; first | go_big_quiet_on | (refine ⟨_, fun _ _ => rfl, ?_⟩; go_big_quiet_on)
  first | go_big_quiet_skip | (go_big_quiet_want; refine quiet_loadm _ 0 rfl rfl rfl ?_; go_big_quiet_on; refine wq_cast (by simp only [Act.put, List.setIfInBounds_toArray, List.set_cons_zero, List.set_cons_succ]; rfl) ?_)
  first | go_big_quiet_skip | (go_big_quiet_want; refine quiet_loadm _ 1 rfl rfl rfl ?_; go_big_quiet_on; refine wq_cast (by simp only [Act.put, List.setIfInBounds_toArray, List.set_cons_zero, List.set_cons_succ]; rfl) ?_)
  first | go_big_quiet_skip | (go_big_quiet_want; refine quiet_call2 _ rfl Tryd.func18 (by kernel_rfl) (by kernel_rfl) (by simp only [List.map_toArray, List.map]; rfl) (fun w' hw => (H18 w').mono fun e w'' h => ⟨h.1, hw.next h.2⟩) ?_; go_big_quiet_on; refine wq_cast (by simp only [Act.put, List.setIfInBounds_toArray, List.set_cons_zero, List.set_cons_succ]; rfl) ?_)
  first | go_big_quiet_skip | (go_big_quiet_want; refine quiet_loadm _ 3 rfl rfl rfl ?_; go_big_quiet_on; refine wq_cast (by simp only [Act.put, List.setIfInBounds_toArray, List.set_cons_zero, List.set_cons_succ]; rfl) ?_)
  first | go_big_quiet_skip | (go_big_quiet_want; refine quiet_cmp _ _ rfl rfl rfl (hmm) ?_; go_big_quiet_on; refine wq_cast (by simp only [Act.put, List.setIfInBounds_toArray, List.set_cons_zero, List.set_cons_succ]; rfl) ?_)
  go_big_quiet_want; go_big_quiet_op; first | go_big_quiet_on | (refine ⟨_, fun _ _ => rfl, ?_⟩; go_big_quiet_on)
  go_big_quiet_want; go_big_quiet_op; first | go_big_quiet_on | (refine ⟨_, fun _ _ => rfl, ?_⟩; go_big_quiet_on)
  first | go_big_quiet_skip | (go_big_quiet_want; refine quiet_loadm _ 0 rfl rfl rfl ?_; go_big_quiet_on; refine wq_cast (by simp only [Act.put, List.setIfInBounds_toArray, List.set_cons_zero, List.set_cons_succ]; rfl) ?_)
  first | go_big_quiet_skip | (go_big_quiet_want; refine quiet_call2 _ rfl Tryd.func19 (by kernel_rfl) (by kernel_rfl) (by simp only [List.map_toArray, List.map]; rfl) (fun w' hw => (zero_any a w').mono fun e w'' h => ⟨h.1, hw.next h.2⟩) ?_; go_big_quiet_on; refine wq_cast (by simp only [Act.put, List.setIfInBounds_toArray, List.set_cons_zero, List.set_cons_succ]; rfl) ?_)
  first | go_big_quiet_skip | (go_big_quiet_want; refine quiet_loadm _ 0 rfl rfl rfl ?_; go_big_quiet_on; refine wq_cast (by simp only [Act.put, List.setIfInBounds_toArray, List.set_cons_zero, List.set_cons_succ]; rfl) ?_)
  first | go_big_quiet_skip | (go_big_quiet_want; go_big_quiet_op; first | go_big_quiet_on | (refine ⟨_, fun _ _ => rfl, ?_⟩; go_big_quiet_on))
  first | go_big_quiet_skip | (go_big_quiet_want; refine quiet_cmp _ _ rfl rfl rfl (zero_hl a) ?_; go_big_quiet_on; refine wq_cast (by simp only [Act.put, List.setIfInBounds_toArray, List.set_cons_zero, List.set_cons_succ]; rfl) ?_)
  first | go_big_quiet_skip | (go_big_quiet_want; go_big_quiet_op; first | go_big_quiet_on | (refine ⟨_, fun _ _ => rfl, ?_⟩; go_big_quiet_on))
  go_big_quiet_want; go_big_quiet_op; first | go_big_quiet_on | (refine ⟨_, fun _ _ => rfl, ?_⟩; go_big_quiet_on)
  go_big_quiet_want; go_big_quiet_op; first | go_big_quiet_on | (refine ⟨_, fun _ _ => rfl, ?_⟩; go_big_quiet_on)
  first | go_big_quiet_skip | (go_big_quiet_want; go_big_quiet_op; first | go_big_quiet_on | (refine ⟨_, fun _ _ => rfl, ?_⟩; go_big_quiet_on))
  first | go_big_quiet_skip | (go_big_quiet_want; go_big_quiet_op; first | go_big_quiet_on | (refine ⟨_, fun _ _ => rfl, ?_⟩; go_big_quiet_on))
  first | go_big_quiet_skip | (go_big_quiet_want; go_big_quiet_op; first | go_big_quiet_on | (refine ⟨_, fun _ _ => rfl, ?_⟩; go_big_quiet_on))
  first | go_big_quiet_skip | (go_big_quiet_want; refine quiet_loadm _ 1 rfl rfl rfl ?_; go_big_quiet_on; refine wq_cast (by simp only [Act.put, List.setIfInBounds_toArray, List.set_cons_zero, List.set_cons_succ]; rfl) ?_)
  first | go_big_quiet_skip | (go_big_quiet_want; refine quiet_loadm _ 2 rfl rfl rfl ?_; go_big_quiet_on; refine wq_cast (by simp only [Act.put, List.setIfInBounds_toArray, List.set_cons_zero, List.set_cons_succ]; rfl) ?_)
  first | go_big_quiet_skip | (go_big_quiet_want; refine quiet_call2 _ rfl Tryd.func15 (by kernel_rfl) (by kernel_rfl) (by simp only [List.map_toArray, List.map]; rfl) (fun w' hw => (H15b w').mono fun e w'' h => ⟨h.1, hw.next h.2⟩) ?_; go_big_quiet_on; refine wq_cast (by simp only [Act.put, List.setIfInBounds_toArray, List.set_cons_zero, List.set_cons_succ]; rfl) ?_)
  first | go_big_quiet_skip | (go_big_quiet_want; go_big_quiet_op; first | go_big_quiet_on | (refine ⟨_, fun _ _ => rfl, ?_⟩; go_big_quiet_on))
  first | go_big_quiet_skip | (go_big_quiet_want; go_big_quiet_op; first | go_big_quiet_on | (refine ⟨_, fun _ _ => rfl, ?_⟩; go_big_quiet_on))
  first | go_big_quiet_skip | (go_big_quiet_want; go_big_quiet_op; first | go_big_quiet_on | (refine ⟨_, fun _ _ => rfl, ?_⟩; go_big_quiet_on))
  first | go_big_quiet_skip | (go_big_quiet_want; refine quiet_loadm _ 0 rfl rfl rfl ?_; go_big_quiet_on; refine wq_cast (by simp only [Act.put, List.setIfInBounds_toArray, List.set_cons_zero, List.set_cons_succ]; rfl) ?_)
  first | go_big_quiet_skip | (go_big_quiet_want; refine quiet_loadm _ 2 rfl rfl rfl ?_; go_big_quiet_on; refine wq_cast (by simp only [Act.put, List.setIfInBounds_toArray, List.set_cons_zero, List.set_cons_succ]; rfl) ?_)
  first | go_big_quiet_skip | (go_big_quiet_want; fail)
  first | go_big_quiet_skip | (go_big_quiet_want; go_big_quiet_op; first | go_big_quiet_on | (refine ⟨_, fun _ _ => rfl, ?_⟩; go_big_quiet_on))
  go_big_quiet_want; go_big_quiet_op; first | go_big_quiet_on | (refine ⟨_, fun _ _ => rfl, ?_⟩; go_big_quiet_on)
  go_big_quiet_want; go_big_quiet_op; first | go_big_quiet_on | (refine ⟨_, fun _ _ => rfl, ?_⟩; go_big_quiet_on)
  first | go_big_quiet_skip | (go_big_quiet_want; refine quiet_load0 _ rfl rfl ?_; go_big_quiet_on; refine wq_cast (by simp only [Act.put, List.setIfInBounds_toArray, List.set_cons_zero, List.set_cons_succ]; rfl) ?_)
  first | go_big_quiet_skip | (go_big_quiet_want; refine quiet_loadm _ 0 rfl rfl rfl ?_; go_big_quiet_on; refine wq_cast (by simp only [Act.put, List.setIfInBounds_toArray, List.set_cons_zero, List.set_cons_succ]; rfl) ?_)
  first | go_big_quiet_skip | (go_big_quiet_want; refine quiet_call2 _ rfl Tryd.func17 (by kernel_rfl) (by kernel_rfl) (by simp only [List.map_toArray, List.map]; rfl) (fun w' hw => (less_no (M - 1) a w' HM.out).mono fun e w'' h => ⟨h.1, hw.next h.2⟩) ?_; go_big_quiet_on; refine wq_cast (by simp only [Act.put, List.setIfInBounds_toArray, List.set_cons_zero, List.set_cons_succ]; rfl) ?_)
  first | go_big_quiet_skip | (go_big_quiet_want; go_big_quiet_op; first | go_big_quiet_on | (refine ⟨_, fun _ _ => rfl, ?_⟩; go_big_quiet_on))
  go_big_quiet_want; go_big_quiet_op; first | go_big_quiet_on | (refine ⟨_, fun _ _ => rfl, ?_⟩; go_big_quiet_on)
  go_big_quiet_want; go_big_quiet_op; first | go_big_quiet_on | (refine ⟨_, fun _ _ => rfl, ?_⟩; go_big_quiet_on)
  refine wpQuiet_nil ?_
  intro w6 hw6
  go_wp2
  go_ret
  exact ⟨rfl, hw6.has.bel⟩
end Go.Proofs.YtjjlfkbgieloeaaDoor
