/- The walk of the law ShelfIds. Conditions: those of its row. -/
import Derived.Test.YtjjlfkbgieloeaaDoorSof
namespace Go.Proofs.YtjjlfkbgieloeaaDoor
open Go.RowKit Go.BigFrame Go.PlainAid
structure IdC (w0 : World) (g s : ByteArray) (st x y : Int) (gn : Nat) (w : World) : Prop where
  p : Blk w w0.heap.size 39 #[.string g, .string s, .int .i64 st]
  n : Blk w gn 24 #[.int .u64 x, .int .u64 y]
  bel : Below w0.heap.size w0 w
theorem IdC.next {w0 w w' : World} {g s : ByteArray} {st x y : Int} {gn : Nat} (h : IdC w0 g s st x y gn w) (hb : Below w.heap.size w w') : IdC w0 g s st x y gn w' := ⟨h.p.carry hb, h.n.carry hb, below_on h.bel hb⟩
structure IdQ (w0 : World) (g s : ByteArray) (st x y : Int) (gn gq : Nat) (w : World) : Prop where
  c : IdC w0 g s st x y gn w
  q : Blk w gq 39 #[.string g, .string s, .int .i64 st]
theorem IdQ.next {w0 w w' : World} {g s : ByteArray} {st x y : Int} {gn gq : Nat} (h : IdQ w0 g s st x y gn gq w) (hb : Below w.heap.size w w') : IdQ w0 g s st x y gn gq w' := ⟨h.c.next hb, h.q.carry hb⟩
set_option maxRecDepth 100000 in
set_option maxHeartbeats 4000000 in
theorem ids_l (g s : ByteArray) (st : Int) (w : World) (T : Int) (hT : wrap64 ((g.size : Int) + (s.size : Int)) = T) (h1 : 100 < T) :
    Calls Tryd.prog 9 #[.agg #[.string g, .string s, .int .i64 st]] w fun e w' => e = .returned (.bool true) ∧ Below w.heap.size w w' := by
  have Ba := Blk.new w 39 #[.string g, .string s, .int .i64 st]
  go_enter Tryd.func9, Tryd.ntmps9
  go_wp2_with fail
  refine (alive26 _).mono ?_
  rintro e w1 ⟨rfl, hb1⟩
  have Ba1 := Blk.carry Ba hb1
  have hB1 := below_on (below_al (Below.refl _ w) (.cells #[.string g, .string s, .int .i64 st] 39)) hb1
  obtain ⟨c0, c1, c2⟩ := plc_cells Ba1
  clear Ba hb1
  go_wp2
  go_ret
  exact ⟨rfl, by repeat (with_reducible first | exact Below.refl _ _ | assumption | refine below_al ?_ _ | refine below_set ?_ (by omega) | refine below_drewN ?_ | refine below_dr ?_ | refine below_on ?_ (by assumption))⟩
set_option maxRecDepth 100000 in
set_option maxHeartbeats 4000000 in
theorem ids_n (g s : ByteArray) (st : Int) (w : World) (T : Int) (hT : wrap64 ((g.size : Int) + (s.size : Int)) = T) (h1 : ¬ 100 < T) (HI : ∀ w, Calls Tryd.prog 30 #[.agg #[.string g, .string s, .int .i64 st]] w fun e w' => e = .returned (.tuple #[.agg #[.int .u64 0, .int .u64 0], .int .i64 1]) ∧ Below w.heap.size w w') (HG : ∀ w, Calls Tryd.prog 32 #[.agg #[.string g, .string s, .int .i64 st]] w fun e w' => e = .returned (.bool false) ∧ Below w.heap.size w w') (HL : ∀ w, Calls Tryd.prog 29 #[.agg #[.string g, .string s, .int .i64 st]] w fun e w' => e = .returned (.bool false) ∧ Below w.heap.size w w') :
    Calls Tryd.prog 9 #[.agg #[.string g, .string s, .int .i64 st]] w fun e w' => e = .returned (.bool true) ∧ Below w.heap.size w w' := by
  have Ba := Blk.new w 39 #[.string g, .string s, .int .i64 st]
  go_enter Tryd.func9, Tryd.ntmps9
  go_wp2_with fail
  refine (alive26 _).mono ?_
  rintro e w1 ⟨rfl, hb1⟩
  have Ba1 := Blk.carry Ba hb1
  have hB1 := below_on (below_al (Below.refl _ w) (.cells #[.string g, .string s, .int .i64 st] 39)) hb1
  obtain ⟨c0, c1, c2⟩ := plc_cells Ba1
  clear Ba hb1
  go_wp2_with fail
  refine (HI _).mono ?_
  rintro e w2 ⟨rfl, hb2⟩
  have Ba2 := Blk.carry Ba1 hb2
  have hB2 := below_on hB1 hb2
  clear c0 c1 c2 Ba1 hB1 hb2
  go_wp2_with fail
  have hC : IdC w g s st (0) (0) w2.heap.size (w2.alloc (.cells #[.int .u64 (0), .int .u64 (0)] 24)).drew := ⟨(Ba2.alloc _).drew, (Blk.new _ _ _).drew, below_dr (below_al hB2 _)⟩
  clear Ba2 hB2
  refine region_class (C := IdC w g s st (0) (0) w2.heap.size) (by kernel_rfl) (by kernel_rfl) hC ?_
  try simp only [List.append]
  go_big_quiet_want; refine quiet_c39 _ (fun w h => h.p) rfl rfl ?_; go_big_quiet_on; refine wq_cast (by simp only [Act.put, List.setIfInBounds_toArray, List.set_cons_zero, List.set_cons_succ]; rfl) ?_
  go_big_quiet_want; refine quiet_call2 _ rfl Tryd.func32 (by kernel_rfl) (by kernel_rfl) (by simp only [List.map_toArray, List.map]; rfl) (fun w' hw => (HG w').mono fun e w'' h => ⟨h.1, hw.next h.2⟩) ?_; go_big_quiet_on; refine wq_cast (by simp only [Act.put, List.setIfInBounds_toArray, List.set_cons_zero, List.set_cons_succ]; rfl) ?_
  go_big_quiet_want; refine quiet_c39 _ (fun w h => h.p) rfl rfl ?_; go_big_quiet_on; refine wq_cast (by simp only [Act.put, List.setIfInBounds_toArray, List.set_cons_zero, List.set_cons_succ]; rfl) ?_
  go_big_quiet_want; refine quiet_call2 _ rfl Tryd.func29 (by kernel_rfl) (by kernel_rfl) (by simp only [List.map_toArray, List.map]; rfl) (fun w' hw => (HL w').mono fun e w'' h => ⟨h.1, hw.next h.2⟩) ?_; go_big_quiet_on; refine wq_cast (by simp only [Act.put, List.setIfInBounds_toArray, List.set_cons_zero, List.set_cons_succ]; rfl) ?_
  go_big_quiet_want; refine quiet_nb _ _ rfl rfl rfl ?_; go_big_quiet_on; refine wq_cast (by simp only [Act.put, List.setIfInBounds_toArray, List.set_cons_zero, List.set_cons_succ]; rfl) ?_
  refine wpQuiet_nil ?_
  intro w3 hw3
  obtain ⟨c0, c1, c2⟩ := plc_cells hw3.p
  go_wp2_with fail
  refine (HL _).mono ?_
  rintro e w4 ⟨rfl, hb4⟩
  have hw4 := hw3.next hb4
  clear c0 c1 c2 hb4 hw3 hC
  have d0 := cell_of0 hw4.n
  have d1 := cell_of1 hw4.n
  go_wp2
  go_ret
  exact ⟨rfl, hw4.bel⟩
set_option maxRecDepth 100000 in
set_option maxHeartbeats 4000000 in
theorem ids_y (g s : ByteArray) (st x y : Int) (tx : ByteArray) (w : World) (T : Int) (hT : wrap64 ((g.size : Int) + (s.size : Int)) = T) (h1 : ¬ 100 < T) (HI : ∀ w, Calls Tryd.prog 30 #[.agg #[.string g, .string s, .int .i64 st]] w fun e w' => e = .returned (.tuple #[.agg #[.int .u64 x, .int .u64 y], .int .i64 0]) ∧ Below w.heap.size w w') (HG : ∀ w, Calls Tryd.prog 32 #[.agg #[.string g, .string s, .int .i64 st]] w fun e w' => e = .returned (.bool true) ∧ Below w.heap.size w w') (HL : ∀ w, Calls Tryd.prog 29 #[.agg #[.string g, .string s, .int .i64 st]] w fun e w' => e = .returned (.bool true) ∧ Below w.heap.size w w') (HO : ∀ w, Calls Tryd.prog 33 #[.agg #[.int .u64 x, .int .u64 y]] w fun e w' => e = .returned (.tuple #[.agg #[.string g, .string s, .int .i64 st], .bool true]) ∧ Below w.heap.size w w') (HT : ∀ w, Calls Tryd.prog 34 #[.string g, .string s, .int .i64 st] w fun e w' => e = .returned (.string tx) ∧ Below w.heap.size w w') (HB : ∀ w, Calls Tryd.prog 22 #[.agg #[.int .u64 x, .int .u64 y]] w fun e w' => e = .returned (.string tx) ∧ Below w.heap.size w w') :
    Calls Tryd.prog 9 #[.agg #[.string g, .string s, .int .i64 st]] w fun e w' => e = .returned (.bool true) ∧ Below w.heap.size w w' := by
  have Ba := Blk.new w 39 #[.string g, .string s, .int .i64 st]
  go_enter Tryd.func9, Tryd.ntmps9
  go_wp2_with fail
  refine (alive26 _).mono ?_
  rintro e w1 ⟨rfl, hb1⟩
  have Ba1 := Blk.carry Ba hb1
  have hB1 := below_on (below_al (Below.refl _ w) (.cells #[.string g, .string s, .int .i64 st] 39)) hb1
  obtain ⟨c0, c1, c2⟩ := plc_cells Ba1
  clear Ba hb1
  go_wp2_with fail
  refine (HI _).mono ?_
  rintro e w2 ⟨rfl, hb2⟩
  have Ba2 := Blk.carry Ba1 hb2
  have hB2 := below_on hB1 hb2
  clear c0 c1 c2 Ba1 hB1 hb2
  go_wp2_with fail
  have hC : IdC w g s st (x) (y) w2.heap.size (w2.alloc (.cells #[.int .u64 (x), .int .u64 (y)] 24)).drew := ⟨(Ba2.alloc _).drew, (Blk.new _ _ _).drew, below_dr (below_al hB2 _)⟩
  clear Ba2 hB2
  refine region_class (C := IdC w g s st (x) (y) w2.heap.size) (by kernel_rfl) (by kernel_rfl) hC ?_
  try simp only [List.append]
  go_big_quiet_want; refine quiet_c39 _ (fun w h => h.p) rfl rfl ?_; go_big_quiet_on; refine wq_cast (by simp only [Act.put, List.setIfInBounds_toArray, List.set_cons_zero, List.set_cons_succ]; rfl) ?_
  go_big_quiet_want; refine quiet_call2 _ rfl Tryd.func32 (by kernel_rfl) (by kernel_rfl) (by simp only [List.map_toArray, List.map]; rfl) (fun w' hw => (HG w').mono fun e w'' h => ⟨h.1, hw.next h.2⟩) ?_; go_big_quiet_on; refine wq_cast (by simp only [Act.put, List.setIfInBounds_toArray, List.set_cons_zero, List.set_cons_succ]; rfl) ?_
  go_big_quiet_want; refine quiet_c39 _ (fun w h => h.p) rfl rfl ?_; go_big_quiet_on; refine wq_cast (by simp only [Act.put, List.setIfInBounds_toArray, List.set_cons_zero, List.set_cons_succ]; rfl) ?_
  go_big_quiet_want; refine quiet_call2 _ rfl Tryd.func29 (by kernel_rfl) (by kernel_rfl) (by simp only [List.map_toArray, List.map]; rfl) (fun w' hw => (HL w').mono fun e w'' h => ⟨h.1, hw.next h.2⟩) ?_; go_big_quiet_on; refine wq_cast (by simp only [Act.put, List.setIfInBounds_toArray, List.set_cons_zero, List.set_cons_succ]; rfl) ?_
  go_big_quiet_want; refine quiet_nb _ _ rfl rfl rfl ?_; go_big_quiet_on; refine wq_cast (by simp only [Act.put, List.setIfInBounds_toArray, List.set_cons_zero, List.set_cons_succ]; rfl) ?_
  refine wpQuiet_nil ?_
  intro w3 hw3
  obtain ⟨c0, c1, c2⟩ := plc_cells hw3.p
  go_wp2_with fail
  refine (HL _).mono ?_
  rintro e w4 ⟨rfl, hb4⟩
  have hw4 := hw3.next hb4
  clear c0 c1 c2 hb4 hw3 hC
  have d0 := cell_of0 hw4.n
  have d1 := cell_of1 hw4.n
  go_wp2_with fail
  refine (HO _).mono ?_
  rintro e w5 ⟨rfl, hb5⟩
  have hw5 := hw4.next hb5
  clear d0 d1 hb5 hw4
  go_wp2_with fail
  have hQ : IdQ w g s st x y w2.heap.size w5.heap.size (w5.alloc (.cells #[.string g, .string s, .int .i64 st] 39)).drew := ⟨⟨(hw5.p.alloc _).drew, (hw5.n.alloc _).drew, below_dr (below_al hw5.bel _)⟩, (Blk.new _ _ _).drew⟩
  clear hw5
  refine region_class (C := IdQ w g s st x y w2.heap.size w5.heap.size) (by kernel_rfl) (by kernel_rfl) hQ ?_
  try simp only [List.append]
  go_big_quiet_want; go_big_quiet_op; first | go_big_quiet_on | (refine ⟨_, fun _ _ => rfl, ?_⟩; go_big_quiet_on)
  go_big_quiet_want; go_big_quiet_op; first | go_big_quiet_on | (refine ⟨_, fun _ _ => rfl, ?_⟩; go_big_quiet_on)
  go_big_quiet_want; go_big_quiet_op; first | go_big_quiet_on | (refine ⟨_, fun _ _ => rfl, ?_⟩; go_big_quiet_on)
  first | go_big_quiet_skip | (go_big_quiet_want; refine quiet_c24 _ (fun w h => h.c.n) rfl rfl ?_; go_big_quiet_on; refine wq_cast (by simp only [Act.put, List.setIfInBounds_toArray, List.set_cons_zero, List.set_cons_succ]; rfl) ?_)
  first | go_big_quiet_skip | (go_big_quiet_want; refine quiet_call2 _ rfl Tryd.func22 (by kernel_rfl) (by kernel_rfl) (by simp only [List.map_toArray, List.map]; rfl) (fun w' hw => (HB w').mono fun e w'' h => ⟨h.1, hw.next h.2⟩) ?_; go_big_quiet_on; refine wq_cast (by simp only [Act.put, List.setIfInBounds_toArray, List.set_cons_zero, List.set_cons_succ]; rfl) ?_)
  first | go_big_quiet_skip | (go_big_quiet_want; go_big_quiet_op; first | go_big_quiet_on | (refine ⟨_, fun _ _ => rfl, ?_⟩; go_big_quiet_on))
  first | go_big_quiet_skip | (go_big_quiet_want; refine quiet_s9 _ (fun w h => h.c.p.cell 0) rfl rfl ?_; go_big_quiet_on; refine wq_cast (by simp only [Act.put, List.setIfInBounds_toArray, List.set_cons_zero, List.set_cons_succ]; rfl) ?_)
  first | go_big_quiet_skip | (go_big_quiet_want; go_big_quiet_op; first | go_big_quiet_on | (refine ⟨_, fun _ _ => rfl, ?_⟩; go_big_quiet_on))
  first | go_big_quiet_skip | (go_big_quiet_want; refine quiet_s9 _ (fun w h => h.c.p.cell 1) rfl rfl ?_; go_big_quiet_on; refine wq_cast (by simp only [Act.put, List.setIfInBounds_toArray, List.set_cons_zero, List.set_cons_succ]; rfl) ?_)
  first | go_big_quiet_skip | (go_big_quiet_want; go_big_quiet_op; first | go_big_quiet_on | (refine ⟨_, fun _ _ => rfl, ?_⟩; go_big_quiet_on))
  first | go_big_quiet_skip | (go_big_quiet_want; refine quiet_i3 _ (fun w h => h.c.p.cell 2) rfl rfl ?_; go_big_quiet_on; refine wq_cast (by simp only [Act.put, List.setIfInBounds_toArray, List.set_cons_zero, List.set_cons_succ]; rfl) ?_)
  first | go_big_quiet_skip | (go_big_quiet_want; refine quiet_call2 _ rfl Tryd.func34 (by kernel_rfl) (by kernel_rfl) (by simp only [List.map_toArray, List.map]; rfl) (fun w' hw => (HT w').mono fun e w'' h => ⟨h.1, hw.next h.2⟩) ?_; go_big_quiet_on; refine wq_cast (by simp only [Act.put, List.setIfInBounds_toArray, List.set_cons_zero, List.set_cons_succ]; rfl) ?_)
  first | go_big_quiet_skip | (go_big_quiet_want; refine quiet_eqs _ _ rfl rfl rfl ?_; go_big_quiet_on; refine wq_cast (by simp only [Act.put, List.setIfInBounds_toArray, List.set_cons_zero, List.set_cons_succ]; rfl) ?_)
  go_big_quiet_want; go_big_quiet_op; first | go_big_quiet_on | (refine ⟨_, fun _ _ => rfl, ?_⟩; go_big_quiet_on)
  go_big_quiet_want; go_big_quiet_op; first | go_big_quiet_on | (refine ⟨_, fun _ _ => rfl, ?_⟩; go_big_quiet_on)
  first | go_big_quiet_skip | (go_big_quiet_want; go_big_quiet_op; first | go_big_quiet_on | (refine ⟨_, fun _ _ => rfl, ?_⟩; go_big_quiet_on))
  go_big_quiet_want; go_big_quiet_op; first | go_big_quiet_on | (refine ⟨_, fun _ _ => rfl, ?_⟩; go_big_quiet_on)
  go_big_quiet_want; go_big_quiet_op; first | go_big_quiet_on | (refine ⟨_, fun _ _ => rfl, ?_⟩; go_big_quiet_on)
  first | go_big_quiet_skip | (go_big_quiet_want; refine quiet_c39 _ (fun w h => h.q) rfl rfl ?_; go_big_quiet_on; refine wq_cast (by simp only [Act.put, List.setIfInBounds_toArray, List.set_cons_zero, List.set_cons_succ]; rfl) ?_)
  first | go_big_quiet_skip | (go_big_quiet_want; refine quiet_c39 _ (fun w h => h.c.p) rfl rfl ?_; go_big_quiet_on; refine wq_cast (by simp only [Act.put, List.setIfInBounds_toArray, List.set_cons_zero, List.set_cons_succ]; rfl) ?_)
  first | go_big_quiet_skip | (go_big_quiet_want; refine quiet_eq39 (r := true) _ _ rfl rfl rfl (by simp) ?_; go_big_quiet_on; refine wq_cast (by simp only [Act.put, List.setIfInBounds_toArray, List.set_cons_zero, List.set_cons_succ]; rfl) ?_)
  go_big_quiet_want; go_big_quiet_op; first | go_big_quiet_on | (refine ⟨_, fun _ _ => rfl, ?_⟩; go_big_quiet_on)
  go_big_quiet_want; go_big_quiet_op; first | go_big_quiet_on | (refine ⟨_, fun _ _ => rfl, ?_⟩; go_big_quiet_on)
  refine wpQuiet_nil ?_
  intro w6 hw6
  go_wp2
  go_ret
  exact ⟨rfl, hw6.c.bel⟩
theorem walkShelfIds (g : ByteArray) (hg : g.size ≤ maxLen) (s : ByteArray) (hs : s.size ≤ maxLen) (st : Int) (_hst : (Lit.int .i64 st).wf = true) (w : World) :
    Calls Tryd.prog 9 #[.agg #[.string g, .string s, .int .i64 st]] w fun e w' => e = .returned (.bool true) ∧ Below w.heap.size w w' := by
  obtain ⟨T, hT⟩ : ∃ T : Int, wrap64 ((g.size : Int) + (s.size : Int)) = T := ⟨_, rfl⟩
  by_cases h1 : 100 < T
  · exact ids_l g s st w T hT h1
  · cases hp : isPlace g s st
    · exact ids_n g s st w T hT h1 (fun w => id_no g s st w hg hs hp) (fun w => good_is g s st false w hg hs hp) (fun w => lawgood_is g s st false w hp)
    · have hO : Ofs (idN g s st) (ofYes g s st) := by
        rcases of_res (idN g s st) (idN_lt g s st) with ⟨_, h⟩ | ⟨g', s', st', hp', he, h⟩
        · exact absurd rfl (h g s st hp)
        · obtain ⟨e1, e2, e3⟩ := id_inj he hp hp'
          subst e1 e2 e3
          exact h
      exact ids_y g s st (hi (idN g s st)) (lo (idN g s st)) (idText g s st) w T hT h1 (fun w => id_is g s st w hg hs hp) (fun w => good_is g s st true w hg hs hp) (fun w => lawgood_is g s st true w hp) (fun w => hO w) (fun w => reftext_is hp w) (fun w => by have := refbytes_any (idN g s st) w; rwa [idBytes hp] at this)
end Go.Proofs.YtjjlfkbgieloeaaDoor
