/- The walk of the law ShelfUnlike. Conditions: those of its row. -/
import Derived.Test.YtjjlfkbgieloeaaDoorRefGood
import Derived.Test.YtjjlfkbgieloeaaDoorIdLaw
import Derived.Test.YtjjlfkbgieloeaaDoorClass3
import Derived.Test.YtjjlfkbgieloeaaDoorOrder
namespace Go.Proofs.YtjjlfkbgieloeaaDoor
open Go.RowKit Go.BigFrame Go.PlainAid
structure UnC (w0 : World) (g s g' s' : ByteArray) (t t' x y x' y' : Int) (ga gb : Nat) (w : World) : Prop where
  p : Blk w w0.heap.size 39 #[.string g, .string s, .int .i64 t]
  q : Blk w (w0.heap.size + 1) 39 #[.string g', .string s', .int .i64 t']
  a : Blk w ga 24 #[.int .u64 x, .int .u64 y]
  b : Blk w gb 24 #[.int .u64 x', .int .u64 y']
  most : MostIs w
  bel : Below w0.heap.size w0 w
set_option maxRecDepth 100000 in
set_option maxHeartbeats 4000000 in
theorem unlike_l (g s g' s' : ByteArray) (t t' : Int) (w : World) (T : Int) (hT : wrap64 (wrap64 (wrap64 ((g.size : Int) + (s.size : Int)) + (g'.size : Int)) + (s'.size : Int)) = T) (h1 : 100 < T) :
    Calls Tryd.prog 7 #[.agg #[.string g, .string s, .int .i64 t], .agg #[.string g', .string s', .int .i64 t']] w fun e w' => e = .returned (.bool true) ∧ Below w.heap.size w w' := by
  have Bp := (Blk.new w 39 #[.string g, .string s, .int .i64 t]).alloc (.cells #[.string g', .string s', .int .i64 t'] 39)
  have Bq : Blk ((w.alloc (.cells #[.string g, .string s, .int .i64 t] 39)).alloc (.cells #[.string g', .string s', .int .i64 t'] 39)) (w.heap.size + 1) 39 #[.string g', .string s', .int .i64 t'] := by
    have := Blk.new (w.alloc (.cells #[.string g, .string s, .int .i64 t] 39)) 39 #[.string g', .string s', .int .i64 t']
    simpa using this
  go_enter Tryd.func7, Tryd.ntmps7
  go_wp2_with fail
  refine (alive26 _).mono ?_
  rintro e w1 ⟨rfl, hb1⟩
  have Bp1 := Blk.carry Bp hb1
  have Bq1 := Blk.carry Bq hb1
  obtain ⟨c0, c1, c2⟩ := plc_cells Bp1
  obtain ⟨d0, d1, d2⟩ := plc_cells Bq1
  have lp := Bp1.lt
  have lq := Bq1.lt
  go_wp2
  go_ret
  exact ⟨rfl, by repeat (with_reducible first | exact Below.refl _ _ | assumption | refine below_al ?_ _ | refine below_set ?_ (by omega) | refine below_drewN ?_ | refine below_dr ?_ | refine below_on ?_ (by assumption))⟩
set_option maxRecDepth 100000 in
set_option maxHeartbeats 4000000 in
theorem unlike_a (g s g' s' : ByteArray) (t t' : Int) (w : World) (T : Int) (hT : wrap64 (wrap64 (wrap64 ((g.size : Int) + (s.size : Int)) + (g'.size : Int)) + (s'.size : Int)) = T) (h1 : ¬ 100 < T) (HP : ∀ w, Calls Tryd.prog 29 #[.agg #[.string g, .string s, .int .i64 t]] w fun e w' => e = .returned (.bool false) ∧ Below w.heap.size w w') :
    Calls Tryd.prog 7 #[.agg #[.string g, .string s, .int .i64 t], .agg #[.string g', .string s', .int .i64 t']] w fun e w' => e = .returned (.bool true) ∧ Below w.heap.size w w' := by
  have Bp := (Blk.new w 39 #[.string g, .string s, .int .i64 t]).alloc (.cells #[.string g', .string s', .int .i64 t'] 39)
  have Bq : Blk ((w.alloc (.cells #[.string g, .string s, .int .i64 t] 39)).alloc (.cells #[.string g', .string s', .int .i64 t'] 39)) (w.heap.size + 1) 39 #[.string g', .string s', .int .i64 t'] := by
    have := Blk.new (w.alloc (.cells #[.string g, .string s, .int .i64 t] 39)) 39 #[.string g', .string s', .int .i64 t']
    simpa using this
  go_enter Tryd.func7, Tryd.ntmps7
  go_wp2_with fail
  refine (alive26 _).mono ?_
  rintro e w1 ⟨rfl, hb1⟩
  have Bp1 := Blk.carry Bp hb1
  have Bq1 := Blk.carry Bq hb1
  obtain ⟨c0, c1, c2⟩ := plc_cells Bp1
  obtain ⟨d0, d1, d2⟩ := plc_cells Bq1
  have lp := Bp1.lt
  have lq := Bq1.lt
  go_wp2_with fail
  refine (HP _).mono ?_
  rintro e w2 ⟨rfl, hb2⟩
  go_wp2
  go_ret
  exact ⟨rfl, by repeat (with_reducible first | exact Below.refl _ _ | assumption | refine below_al ?_ _ | refine below_set ?_ (by omega) | refine below_drewN ?_ | refine below_dr ?_ | refine below_on ?_ (by assumption))⟩
set_option maxRecDepth 100000 in
set_option maxHeartbeats 4000000 in
theorem unlike_b (g s g' s' : ByteArray) (t t' : Int) (w : World) (T : Int) (hT : wrap64 (wrap64 (wrap64 ((g.size : Int) + (s.size : Int)) + (g'.size : Int)) + (s'.size : Int)) = T) (h1 : ¬ 100 < T) (HP : ∀ w, Calls Tryd.prog 29 #[.agg #[.string g, .string s, .int .i64 t]] w fun e w' => e = .returned (.bool true) ∧ Below w.heap.size w w') (HQ : ∀ w, Calls Tryd.prog 29 #[.agg #[.string g', .string s', .int .i64 t']] w fun e w' => e = .returned (.bool false) ∧ Below w.heap.size w w') :
    Calls Tryd.prog 7 #[.agg #[.string g, .string s, .int .i64 t], .agg #[.string g', .string s', .int .i64 t']] w fun e w' => e = .returned (.bool true) ∧ Below w.heap.size w w' := by
  have Bp := (Blk.new w 39 #[.string g, .string s, .int .i64 t]).alloc (.cells #[.string g', .string s', .int .i64 t'] 39)
  have Bq : Blk ((w.alloc (.cells #[.string g, .string s, .int .i64 t] 39)).alloc (.cells #[.string g', .string s', .int .i64 t'] 39)) (w.heap.size + 1) 39 #[.string g', .string s', .int .i64 t'] := by
    have := Blk.new (w.alloc (.cells #[.string g, .string s, .int .i64 t] 39)) 39 #[.string g', .string s', .int .i64 t']
    simpa using this
  go_enter Tryd.func7, Tryd.ntmps7
  go_wp2_with fail
  refine (alive26 _).mono ?_
  rintro e w1 ⟨rfl, hb1⟩
  have Bp1 := Blk.carry Bp hb1
  have Bq1 := Blk.carry Bq hb1
  obtain ⟨c0, c1, c2⟩ := plc_cells Bp1
  obtain ⟨d0, d1, d2⟩ := plc_cells Bq1
  have lp := Bp1.lt
  have lq := Bq1.lt
  go_wp2_with fail
  refine (HP _).mono ?_
  rintro e w2 ⟨rfl, hb2⟩
  clear c0 c1 c2 d0 d1 d2 lp lq
  have Bp2 := Blk.carry Bp1 hb2
  have Bq2 := Blk.carry Bq1 hb2
  obtain ⟨c0, c1, c2⟩ := plc_cells Bp2
  obtain ⟨d0, d1, d2⟩ := plc_cells Bq2
  have lp := Bp2.lt
  have lq := Bq2.lt
  go_wp2_with fail
  refine (HQ _).mono ?_
  rintro e w3 ⟨rfl, hb3⟩
  go_wp2
  go_ret
  exact ⟨rfl, by repeat (with_reducible first | exact Below.refl _ _ | assumption | refine below_al ?_ _ | refine below_set ?_ (by omega) | refine below_drewN ?_ | refine below_dr ?_ | refine below_on ?_ (by assumption))⟩
set_option maxRecDepth 100000 in
set_option maxHeartbeats 4000000 in
theorem unlike_c (g s g' s' : ByteArray) (t t' : Int) (w : World) (T : Int) (hT : wrap64 (wrap64 (wrap64 ((g.size : Int) + (s.size : Int)) + (g'.size : Int)) + (s'.size : Int)) = T) (h1 : ¬ 100 < T) (x y x' y' : Int) (r : Bool) (HP : ∀ w, Calls Tryd.prog 29 #[.agg #[.string g, .string s, .int .i64 t]] w fun e w' => e = .returned (.bool true) ∧ Below w.heap.size w w') (HQ : ∀ w, Calls Tryd.prog 29 #[.agg #[.string g', .string s', .int .i64 t']] w fun e w' => e = .returned (.bool true) ∧ Below w.heap.size w w') (HI : ∀ w, Calls Tryd.prog 30 #[.agg #[.string g, .string s, .int .i64 t]] w fun e w' => e = .returned (.tuple #[.agg #[.int .u64 x, .int .u64 y], .int .i64 0]) ∧ Below w.heap.size w w') (HJ : ∀ w, Calls Tryd.prog 30 #[.agg #[.string g', .string s', .int .i64 t']] w fun e w' => e = .returned (.tuple #[.agg #[.int .u64 x', .int .u64 y'], .int .i64 0]) ∧ Below w.heap.size w w') (hm : MostIs w) (H49 : (x == x' && y == y') = r) (H52 : Hid (r = decide (g = g' ∧ s = s' ∧ t = t'))) (H57 : (!(x == 0 && y == 0)) = true) (H62 : (!(x == hi (M - 1) && y == lo (M - 1))) = true) :
    Calls Tryd.prog 7 #[.agg #[.string g, .string s, .int .i64 t], .agg #[.string g', .string s', .int .i64 t']] w fun e w' => e = .returned (.bool true) ∧ Below w.heap.size w w' := by
  have Bp := (Blk.new w 39 #[.string g, .string s, .int .i64 t]).alloc (.cells #[.string g', .string s', .int .i64 t'] 39)
  have Bq : Blk ((w.alloc (.cells #[.string g, .string s, .int .i64 t] 39)).alloc (.cells #[.string g', .string s', .int .i64 t'] 39)) (w.heap.size + 1) 39 #[.string g', .string s', .int .i64 t'] := by
    have := Blk.new (w.alloc (.cells #[.string g, .string s, .int .i64 t] 39)) 39 #[.string g', .string s', .int .i64 t']
    simpa using this
  go_enter Tryd.func7, Tryd.ntmps7
  go_wp2_with fail
  refine (alive26 _).mono ?_
  rintro e w1 ⟨rfl, hb1⟩
  have Bp1 := Blk.carry Bp hb1
  have Bq1 := Blk.carry Bq hb1
  obtain ⟨c0, c1, c2⟩ := plc_cells Bp1
  obtain ⟨d0, d1, d2⟩ := plc_cells Bq1
  have lp := Bp1.lt
  have lq := Bq1.lt
  go_wp2_with fail
  refine (HP _).mono ?_
  rintro e w2 ⟨rfl, hb2⟩
  clear c0 c1 c2 d0 d1 d2 lp lq
  have Bp2 := Blk.carry Bp1 hb2
  have Bq2 := Blk.carry Bq1 hb2
  obtain ⟨c0, c1, c2⟩ := plc_cells Bp2
  obtain ⟨d0, d1, d2⟩ := plc_cells Bq2
  have lp := Bp2.lt
  have lq := Bq2.lt
  go_wp2_with fail
  refine (HQ _).mono ?_
  rintro e w3 ⟨rfl, hb3⟩
  clear c0 c1 c2 d0 d1 d2 lp lq
  have Bp3 := Blk.carry Bp2 hb3
  have Bq3 := Blk.carry Bq2 hb3
  obtain ⟨c0, c1, c2⟩ := plc_cells Bp3
  obtain ⟨d0, d1, d2⟩ := plc_cells Bq3
  have lp := Bp3.lt
  have lq := Bq3.lt
  go_wp2_with fail
  refine (HI _).mono ?_
  rintro e w4 ⟨rfl, hb4⟩
  clear c0 c1 c2 d0 d1 d2 lp lq
  have Bp4 := Blk.carry Bp3 hb4
  have Bq4 := Blk.carry Bq3 hb4
  obtain ⟨c0, c1, c2⟩ := plc_cells Bp4
  obtain ⟨d0, d1, d2⟩ := plc_cells Bq4
  have lp := Bp4.lt
  have lq := Bq4.lt
  have Bx : Blk (w4.alloc (.cells #[.int .u64 x, .int .u64 y] 24)) w4.heap.size 24 #[.int .u64 x, .int .u64 y] := Blk.new _ _ _
  go_wp2_with fail
  refine (HJ _).mono ?_
  rintro e w5 ⟨rfl, hb5⟩
  clear c0 c1 c2 d0 d1 d2 lp lq
  have Bp5 := Blk.carry (Bp4.alloc _) hb5
  have Bq5 := Blk.carry (Bq4.alloc _) hb5
  have Bx5 := Blk.carry Bx hb5
  go_wp2_with fail
  have hb : Below w.heap.size w (w5.alloc (.cells #[.int .u64 x', .int .u64 y'] 24)) := by repeat (with_reducible first | exact Below.refl _ _ | assumption | refine below_al ?_ _ | refine below_set ?_ (by omega) | refine below_drewN ?_ | refine below_dr ?_ | refine below_on ?_ (by assumption))
  have hC : UnC w g s g' s' t t' x y x' y' w4.heap.size w5.heap.size (w5.alloc (.cells #[.int .u64 x', .int .u64 y'] 24)).drew := ⟨(Bp5.alloc _).drew, (Bq5.alloc _).drew, (Bx5.alloc _).drew, (Blk.new _ _ _).drew, hm.below (below_dr hb), below_dr hb⟩
  clear hb
  cases r
  all_goals
    refine region_class (C := UnC w g s g' s' t t' x y x' y' w4.heap.size w5.heap.size) (by kernel_rfl) (by kernel_rfl) hC ?_
    try simp only [List.append]
    go_big_quiet_want; refine quiet_c24 _ (fun w h => h.a) rfl rfl ?_; go_big_quiet_on; refine wq_cast (by simp only [Act.put, List.setIfInBounds_toArray, List.set_cons_zero, List.set_cons_succ]; rfl) ?_
    go_big_quiet_want; refine quiet_c24 _ (fun w h => h.b) rfl rfl ?_; go_big_quiet_on; refine wq_cast (by simp only [Act.put, List.setIfInBounds_toArray, List.set_cons_zero, List.set_cons_succ]; rfl) ?_
    go_big_quiet_want; refine quiet_cmp _ _ rfl rfl rfl H49 ?_; go_big_quiet_on; refine wq_cast (by simp only [Act.put, List.setIfInBounds_toArray, List.set_cons_zero, List.set_cons_succ]; rfl) ?_
    go_big_quiet_want; refine quiet_c39 _ (fun w h => h.p) rfl rfl ?_; go_big_quiet_on; refine wq_cast (by simp only [Act.put, List.setIfInBounds_toArray, List.set_cons_zero, List.set_cons_succ]; rfl) ?_
    go_big_quiet_want; refine quiet_c39 _ (fun w h => h.q) rfl rfl ?_; go_big_quiet_on; refine wq_cast (by simp only [Act.put, List.setIfInBounds_toArray, List.set_cons_zero, List.set_cons_succ]; rfl) ?_
    go_big_quiet_want; refine quiet_eq39 _ _ rfl rfl rfl H52.out ?_; go_big_quiet_on; refine wq_cast (by simp only [Act.put, List.setIfInBounds_toArray, List.set_cons_zero, List.set_cons_succ]; rfl) ?_
    go_big_quiet_want; go_big_quiet_op; first | go_big_quiet_on | (refine ⟨_, fun _ _ => rfl, ?_⟩; go_big_quiet_on)
    go_big_quiet_want; go_big_quiet_op; first | go_big_quiet_on | (refine ⟨_, fun _ _ => rfl, ?_⟩; go_big_quiet_on)
    first | go_big_quiet_skip | (go_big_quiet_want; refine quiet_c24 _ (fun w h => h.a) rfl rfl ?_; go_big_quiet_on; refine wq_cast (by simp only [Act.put, List.setIfInBounds_toArray, List.set_cons_zero, List.set_cons_succ]; rfl) ?_)
    first | go_big_quiet_skip | (go_big_quiet_want; go_big_quiet_op; first | go_big_quiet_on | (refine ⟨_, fun _ _ => rfl, ?_⟩; go_big_quiet_on))
    first | go_big_quiet_skip | (go_big_quiet_want; refine quiet_ncmp _ _ rfl rfl rfl H57 ?_; go_big_quiet_on; refine wq_cast (by simp only [Act.put, List.setIfInBounds_toArray, List.set_cons_zero, List.set_cons_succ]; rfl) ?_)
    go_big_quiet_want; go_big_quiet_op; first | go_big_quiet_on | (refine ⟨_, fun _ _ => rfl, ?_⟩; go_big_quiet_on)
    go_big_quiet_want; go_big_quiet_op; first | go_big_quiet_on | (refine ⟨_, fun _ _ => rfl, ?_⟩; go_big_quiet_on)
    first | go_big_quiet_skip | (go_big_quiet_want; refine quiet_c24 _ (fun w h => h.a) rfl rfl ?_; go_big_quiet_on; refine wq_cast (by simp only [Act.put, List.setIfInBounds_toArray, List.set_cons_zero, List.set_cons_succ]; rfl) ?_)
    first | go_big_quiet_skip | (go_big_quiet_want; refine quiet_cM _ (fun w h => h.most) rfl rfl ?_; go_big_quiet_on; refine wq_cast (by simp only [Act.put, List.setIfInBounds_toArray, List.set_cons_zero, List.set_cons_succ]; rfl) ?_)
    first | go_big_quiet_skip | (go_big_quiet_want; refine quiet_ncmp _ _ rfl rfl rfl H62 ?_; go_big_quiet_on; refine wq_cast (by simp only [Act.put, List.setIfInBounds_toArray, List.set_cons_zero, List.set_cons_succ]; rfl) ?_)
    go_big_quiet_want; go_big_quiet_op; first | go_big_quiet_on | (refine ⟨_, fun _ _ => rfl, ?_⟩; go_big_quiet_on)
    go_big_quiet_want; go_big_quiet_op; first | go_big_quiet_on | (refine ⟨_, fun _ _ => rfl, ?_⟩; go_big_quiet_on)
    refine wpQuiet_nil ?_
    intro w6 hw6
    go_wp2
    go_ret
    exact ⟨rfl, hw6.bel⟩
theorem walkShelfUnlike (g : ByteArray) (hg : g.size ≤ maxLen) (s : ByteArray) (hs : s.size ≤ maxLen) (t : Int) (_ht : (Lit.int .i64 t).wf = true) (g' : ByteArray) (hg' : g'.size ≤ maxLen) (s' : ByteArray) (hs' : s'.size ≤ maxLen) (t' : Int) (_ht' : (Lit.int .i64 t').wf = true) (w : World) (hm : MostIs w) :
    Calls Tryd.prog 7 #[.agg #[.string g, .string s, .int .i64 t], .agg #[.string g', .string s', .int .i64 t']] w fun e w' => e = .returned (.bool true) ∧ Below w.heap.size w w' := by
  obtain ⟨T, hT⟩ : ∃ T : Int, wrap64 (wrap64 (wrap64 ((g.size : Int) + (s.size : Int)) + (g'.size : Int)) + (s'.size : Int)) = T := ⟨_, rfl⟩
  by_cases h1 : 100 < T
  · exact unlike_l g s g' s' t t' w T hT h1
  · cases hp : isPlace g s t
    · exact unlike_a g s g' s' t t' w T hT h1 (fun w => lawgood_is g s t false w hp)
    · cases hq : isPlace g' s' t'
      · exact unlike_b g s g' s' t t' w T hT h1 (fun w => lawgood_is g s t true w hp) (fun w => lawgood_is g' s' t' false w hq)
      · refine unlike_c g s g' s' t t' w T hT h1 (hi (idN g s t)) (lo (idN g s t)) (hi (idN g' s' t')) (lo (idN g' s' t')) (decide (idN g s t = idN g' s' t')) (fun w => lawgood_is g s t true w hp) (fun w => lawgood_is g' s' t' true w hq) (fun w => id_is g s t w hg hs hp) (fun w => id_is g' s' t' w hg' hs' hq) hm ?_ (Lib.hid ?_) ?_ ?_
        · by_cases e : idN g s t = idN g' s' t'
          · rw [e, decide_eq_true rfl]; exact same _
          · rw [decide_eq_false e]; exact differ _ _ e
        · rw [decide_eq_decide]
          constructor
          · intro e; exact id_inj e hp hq
          · rintro ⟨rfl, rfl, rfl⟩; rfl
        · have := differ (idN g s t) 0 (idN_ne0 hp)
          rw [hi_zero, lo_zero] at this
          rw [this]; rfl
        · rw [differ (idN g s t) (M - 1) (idN_neM hp)]; rfl
end Go.Proofs.YtjjlfkbgieloeaaDoor
