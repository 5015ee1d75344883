/- The walk of the law ShelfOf. Conditions: those of its row. -/
import Derived.Test.YtjjlfkbgieloeaaDoorOfLaw
import Derived.Test.YtjjlfkbgieloeaaDoorRefGood
import Derived.Test.YtjjlfkbgieloeaaDoorRefByt
import Derived.Test.YtjjlfkbgieloeaaDoorClass4
namespace Go.Proofs.YtjjlfkbgieloeaaDoor
open Go.RowKit Go.BigFrame Go.PlainAid
structure OfC (w0 : World) (n : Nat) (g s : ByteArray) (st : Int) (gp : Nat) (w : World) : Prop where
  a : Blk w w0.heap.size 24 #[.int .u64 (hi n), .int .u64 (lo n)]
  p : Blk w gp 39 #[.string g, .string s, .int .i64 st]
  bel : Below w0.heap.size w0 w
theorem OfC.next {w0 w w' : World} {n : Nat} {g s : ByteArray} {st : Int} {gp : Nat} (h : OfC w0 n g s st gp w) (hb : Below w.heap.size w w') : OfC w0 n g s st gp w' := ⟨h.a.carry hb, h.p.carry hb, below_on h.bel hb⟩
set_option maxRecDepth 100000 in
set_option maxHeartbeats 4000000 in
theorem sof_n (n : Nat) (w : World) (HO : ∀ w, Calls Tryd.prog 33 #[.agg #[.int .u64 (hi n), .int .u64 (lo n)]] w fun e w' => e = .returned (.tuple #[.agg #[.string ⟨#[]⟩, .string ⟨#[]⟩, .int .i64 0], .bool false]) ∧ Below w.heap.size w w') :
    Calls Tryd.prog 10 #[.agg #[.int .u64 (hi n), .int .u64 (lo n)]] w fun e w' => e = .returned (.bool true) ∧ Below w.heap.size w w' := by
  have Ba := Blk.new w 24 #[.int .u64 (hi n), .int .u64 (lo n)]
  go_enter Tryd.func10, Tryd.ntmps10
  go_wp2_with fail
  refine (alive26 _).mono ?_
  rintro e w1 ⟨rfl, hb1⟩
  have Ba1 := Blk.carry Ba hb1
  have hB1 := below_on (below_al (Below.refl _ w) (.cells #[.int .u64 (hi n), .int .u64 (lo n)] 24)) hb1
  have c0 := cell_of0 Ba1
  have c1 := cell_of1 Ba1
  clear Ba hb1
  go_wp2_with fail
  refine (HO _).mono ?_
  rintro e w2 ⟨rfl, hb2⟩
  have Ba2 := Blk.carry Ba1 hb2
  have hB2 := below_on hB1 hb2
  clear c0 c1 Ba1 hB1 hb2
  go_wp2
  go_ret
  exact ⟨rfl, by repeat (with_reducible first | exact Below.refl _ _ | assumption | refine below_al ?_ _ | refine below_set ?_ (by omega) | refine below_drewN ?_ | refine below_dr ?_ | refine below_on ?_ (by assumption))⟩
set_option maxRecDepth 100000 in
set_option maxHeartbeats 4000000 in
theorem sof_y (n : Nat) (g s : ByteArray) (st : Int) (tx : ByteArray) (w : World) (HO : ∀ w, Calls Tryd.prog 33 #[.agg #[.int .u64 (hi n), .int .u64 (lo n)]] w fun e w' => e = .returned (.tuple #[.agg #[.string g, .string s, .int .i64 st], .bool true]) ∧ Below w.heap.size w w') (HG : ∀ w, Calls Tryd.prog 29 #[.agg #[.string g, .string s, .int .i64 st]] w fun e w' => e = .returned (.bool true) ∧ Below w.heap.size w w') (HT : ∀ w, Calls Tryd.prog 34 #[.string g, .string s, .int .i64 st] w fun e w' => e = .returned (.string tx) ∧ Below w.heap.size w w') (HB : ∀ w, Calls Tryd.prog 22 #[.agg #[.int .u64 (hi n), .int .u64 (lo n)]] w fun e w' => e = .returned (.string tx) ∧ Below w.heap.size w w') :
    Calls Tryd.prog 10 #[.agg #[.int .u64 (hi n), .int .u64 (lo n)]] w fun e w' => e = .returned (.bool true) ∧ Below w.heap.size w w' := by
  have Ba := Blk.new w 24 #[.int .u64 (hi n), .int .u64 (lo n)]
  go_enter Tryd.func10, Tryd.ntmps10
  go_wp2_with fail
  refine (alive26 _).mono ?_
  rintro e w1 ⟨rfl, hb1⟩
  have Ba1 := Blk.carry Ba hb1
  have hB1 := below_on (below_al (Below.refl _ w) (.cells #[.int .u64 (hi n), .int .u64 (lo n)] 24)) hb1
  have c0 := cell_of0 Ba1
  have c1 := cell_of1 Ba1
  clear Ba hb1
  go_wp2_with fail
  refine (HO _).mono ?_
  rintro e w2 ⟨rfl, hb2⟩
  have Ba2 := Blk.carry Ba1 hb2
  have hB2 := below_on hB1 hb2
  clear c0 c1 Ba1 hB1 hb2
  go_wp2_with fail
  have hC : OfC w n g s st w2.heap.size (w2.alloc (.cells #[.string g, .string s, .int .i64 st] 39)).drew := ⟨(Ba2.alloc _).drew, (Blk.new _ _ _).drew, below_dr (below_al hB2 _)⟩
  clear Ba2 hB2
  refine region_class (C := OfC w n g s st w2.heap.size) (by kernel_rfl) (by kernel_rfl) hC ?_
  try simp only [List.append]
  go_big_quiet_want; refine quiet_c39 _ (fun w h => h.p) rfl rfl ?_; go_big_quiet_on; refine wq_cast (by simp only [Act.put, List.setIfInBounds_toArray, List.set_cons_zero, List.set_cons_succ]; rfl) ?_
  go_big_quiet_want; refine quiet_call2 _ rfl Tryd.func29 (by kernel_rfl) (by kernel_rfl) (by simp only [List.map_toArray, List.map]; rfl) (fun w' hw => (HG w').mono fun e w'' h => ⟨h.1, hw.next h.2⟩) ?_; go_big_quiet_on; refine wq_cast (by simp only [Act.put, List.setIfInBounds_toArray, List.set_cons_zero, List.set_cons_succ]; rfl) ?_
  go_big_quiet_want; go_big_quiet_op; first | go_big_quiet_on | (refine ⟨_, fun _ _ => rfl, ?_⟩; go_big_quiet_on)
  first | go_big_quiet_skip | (go_big_quiet_want; go_big_quiet_op; first | go_big_quiet_on | (refine ⟨_, fun _ _ => rfl, ?_⟩; go_big_quiet_on))
  first | go_big_quiet_skip | (go_big_quiet_want; refine quiet_s9 _ (fun w h => h.p.cell 0) rfl rfl ?_; go_big_quiet_on; refine wq_cast (by simp only [Act.put, List.setIfInBounds_toArray, List.set_cons_zero, List.set_cons_succ]; rfl) ?_)
  first | go_big_quiet_skip | (go_big_quiet_want; go_big_quiet_op; first | go_big_quiet_on | (refine ⟨_, fun _ _ => rfl, ?_⟩; go_big_quiet_on))
  first | go_big_quiet_skip | (go_big_quiet_want; refine quiet_s9 _ (fun w h => h.p.cell 1) rfl rfl ?_; go_big_quiet_on; refine wq_cast (by simp only [Act.put, List.setIfInBounds_toArray, List.set_cons_zero, List.set_cons_succ]; rfl) ?_)
  first | go_big_quiet_skip | (go_big_quiet_want; go_big_quiet_op; first | go_big_quiet_on | (refine ⟨_, fun _ _ => rfl, ?_⟩; go_big_quiet_on))
  first | go_big_quiet_skip | (go_big_quiet_want; refine quiet_i3 _ (fun w h => h.p.cell 2) rfl rfl ?_; go_big_quiet_on; refine wq_cast (by simp only [Act.put, List.setIfInBounds_toArray, List.set_cons_zero, List.set_cons_succ]; rfl) ?_)
  first | go_big_quiet_skip | (go_big_quiet_want; refine quiet_call2 _ rfl Tryd.func34 (by kernel_rfl) (by kernel_rfl) (by simp only [List.map_toArray, List.map]; rfl) (fun w' hw => (HT w').mono fun e w'' h => ⟨h.1, hw.next h.2⟩) ?_; go_big_quiet_on; refine wq_cast (by simp only [Act.put, List.setIfInBounds_toArray, List.set_cons_zero, List.set_cons_succ]; rfl) ?_)
  first | go_big_quiet_skip | (go_big_quiet_want; refine quiet_c24 _ (fun w h => h.a) rfl rfl ?_; go_big_quiet_on; refine wq_cast (by simp only [Act.put, List.setIfInBounds_toArray, List.set_cons_zero, List.set_cons_succ]; rfl) ?_)
  first | go_big_quiet_skip | (go_big_quiet_want; refine quiet_call2 _ rfl Tryd.func22 (by kernel_rfl) (by kernel_rfl) (by simp only [List.map_toArray, List.map]; rfl) (fun w' hw => (HB w').mono fun e w'' h => ⟨h.1, hw.next h.2⟩) ?_; go_big_quiet_on; refine wq_cast (by simp only [Act.put, List.setIfInBounds_toArray, List.set_cons_zero, List.set_cons_succ]; rfl) ?_)
  first | go_big_quiet_skip | (go_big_quiet_want; refine quiet_eqs _ _ rfl rfl rfl ?_; go_big_quiet_on; refine wq_cast (by simp only [Act.put, List.setIfInBounds_toArray, List.set_cons_zero, List.set_cons_succ]; rfl) ?_)
  go_big_quiet_want; go_big_quiet_op; first | go_big_quiet_on | (refine ⟨_, fun _ _ => rfl, ?_⟩; go_big_quiet_on)
  go_big_quiet_want; go_big_quiet_op; first | go_big_quiet_on | (refine ⟨_, fun _ _ => rfl, ?_⟩; go_big_quiet_on)
  refine wpQuiet_nil ?_
  intro w6 hw6
  go_wp2
  go_ret
  exact ⟨rfl, hw6.bel⟩
theorem walkShelfOf (x0 : Int) (v0 : (Lit.int .u64 x0).wf = true) (x1 : Int) (v1 : (Lit.int .u64 x1).wf = true) (w : World) :
    Calls Tryd.prog 10 #[.agg #[.int .u64 x0, .int .u64 x1]] w fun e w' => e = .returned (.bool true) ∧ Below w.heap.size w w' := by
  obtain ⟨n, hn, rfl, rfl⟩ := num_of x0 x1 v0 v1
  rcases of_res n hn with ⟨h, _⟩ | ⟨g, s, st, hp, he, h⟩
  · exact sof_n n w h
  · exact sof_y n g s st (idText g s st) w h (fun w => lawgood_is g s st true w hp) (fun w => reftext_is hp w) (fun w => by have := refbytes_any n w; rwa [he, idBytes hp, ← he] at this)
end Go.Proofs.YtjjlfkbgieloeaaDoor
