/- The contract of wide.times: ten times a number, and a digit. Conditions: a number of 128 bits. -/
import Derived.Test.YtjjlfkbgieloeaaDoorTimes
namespace Go.Proofs.YtjjlfkbgieloeaaDoor
open Go.RowKit
theorem of_is (d : Nat) (w : World) (h : d < 256) : Calls Tryd.prog 38 #[.int .u64 (d : Int)] w fun e w' => e = .returned (A d) ∧ Below w.heap.size w w' := of_any d w (by omega)
theorem mul_lo (a p q : Nat) (w : World) (h1 : a % 18446744073709551616 * 10 / 18446744073709551616 = p) (h2 : a % 18446744073709551616 * 10 % 18446744073709551616 = q) :
    Calls Tryd.prog 61 #[.int .u64 (lo a), .int .u64 10] w fun e w' => e = .returned (.tuple #[.int .u64 (p : Int), .int .u64 (q : Int)]) ∧ Below w.heap.size w w' := by
  subst h1 h2
  exact mul_raw (a % 18446744073709551616) (lo a) w (Lib.hid ⟨rfl, Nat.mod_lt _ (by omega)⟩)
theorem mul_hi (a r t : Nat) (w : World) (ha : a < M) (h1 : a / 18446744073709551616 * 10 / 18446744073709551616 = r) (h2 : a / 18446744073709551616 * 10 % 18446744073709551616 = t) :
    Calls Tryd.prog 61 #[.int .u64 (hi a), .int .u64 10] w fun e w' => e = .returned (.tuple #[.int .u64 (r : Int), .int .u64 (t : Int)]) ∧ Below w.heap.size w w' := by
  subst h1 h2
  exact mul_raw (a / 18446744073709551616) (hi a) w (Lib.hid ⟨rfl, by unfold M at ha; omega⟩)
set_option maxRecDepth 100000 in
set_option maxHeartbeats 2000000 in
theorem times_no1 (a p q r t s c : Nat) (d : Int) (w : World) (hr : ((r : Int) != 0) = true) (H1 : ∀ w, Calls Tryd.prog 61 #[.int .u64 (lo a), .int .u64 10] w fun e w' => e = .returned (.tuple #[.int .u64 (p : Int), .int .u64 (q : Int)]) ∧ Below w.heap.size w w') (H2 : ∀ w, Calls Tryd.prog 61 #[.int .u64 (hi a), .int .u64 10] w fun e w' => e = .returned (.tuple #[.int .u64 (r : Int), .int .u64 (t : Int)]) ∧ Below w.heap.size w w') (H3 : ∀ w, (callFunc 42 #[.int .u64 (t : Int), .int .u64 (p : Int), .int .u64 0]).run Tryd.prog w = .ok (.value (.tuple #[.int .u64 (s : Int), .int .u64 (c : Int)])) w) :
    Calls Tryd.prog 51 #[A a, .int .u8 d] w fun e w' => e = .returned (.tuple #[.agg #[.int .u64 0, .int .u64 0], .bool false]) ∧ Below w.heap.size w w' := by
  have Ba := Blk.new w 24 #[.int .u64 (hi a), .int .u64 (lo a)]
  have Br : Blk ((w.alloc (.cells #[.int .u64 (hi a), .int .u64 (lo a)] 24)).alloc (.cells #[.int .u64 0, .int .u64 0] 24)) (w.heap.size + 1) 24 #[.int .u64 0, .int .u64 0] := by
    have := Blk.new (w.alloc (.cells #[.int .u64 (hi a), .int .u64 (lo a)] 24)) 24 #[.int .u64 0, .int .u64 0]
    simpa using this
  go_enter Tryd.func51, Tryd.ntmps51
  go_wp2_with fail
  refine (H1 _).mono ?_
  rintro e w1 ⟨rfl, hb1⟩
  have Ba1 := Blk.carry (Ba.alloc _) hb1
  have Br1 := Blk.carry Br hb1
  clear Ba Br
  have c0 := cell_of0 Ba1
  have c1 := cell_of1 Ba1
  have l0 := Ba1.lt
  have lr := Br1.lt
  go_wp2_with fail
  refine (H2 _).mono ?_
  rintro e w2 ⟨rfl, hb2⟩
  have Br2 := Blk.carry Br1 hb2
  clear Ba1 Br1 c0 c1 l0 lr
  have r0 := cell_of0 Br2
  have r1 := cell_of1 Br2
  have f0 := Br2.frozen 0
  have f1 := Br2.frozen 1
  have lr := Br2.lt
  go_wp2
  exact bodyPost_ret (v := .tuple #[.agg #[.int .u64 0, .int .u64 0], .bool false]) (by simp [results, Tryd.results51, go_sem, r0, r1]) rfl ⟨rfl, by repeat (with_reducible first | exact Below.refl _ _ | assumption | refine below_al ?_ _ | refine below_set ?_ (by omega) | refine below_on ?_ (by assumption))⟩
set_option maxRecDepth 100000 in
set_option maxHeartbeats 2000000 in
theorem times_no2 (a p q t s : Nat) (d : Int) (w : World) (H1 : ∀ w, Calls Tryd.prog 61 #[.int .u64 (lo a), .int .u64 10] w fun e w' => e = .returned (.tuple #[.int .u64 (p : Int), .int .u64 (q : Int)]) ∧ Below w.heap.size w w') (H2 : ∀ w, Calls Tryd.prog 61 #[.int .u64 (hi a), .int .u64 10] w fun e w' => e = .returned (.tuple #[.int .u64 0, .int .u64 (t : Int)]) ∧ Below w.heap.size w w') (H3 : ∀ w, (callFunc 42 #[.int .u64 (t : Int), .int .u64 (p : Int), .int .u64 0]).run Tryd.prog w = .ok (.value (.tuple #[.int .u64 (s : Int), .int .u64 1])) w) :
    Calls Tryd.prog 51 #[A a, .int .u8 d] w fun e w' => e = .returned (.tuple #[.agg #[.int .u64 0, .int .u64 0], .bool false]) ∧ Below w.heap.size w w' := by
  have Ba := Blk.new w 24 #[.int .u64 (hi a), .int .u64 (lo a)]
  have Br : Blk ((w.alloc (.cells #[.int .u64 (hi a), .int .u64 (lo a)] 24)).alloc (.cells #[.int .u64 0, .int .u64 0] 24)) (w.heap.size + 1) 24 #[.int .u64 0, .int .u64 0] := by
    have := Blk.new (w.alloc (.cells #[.int .u64 (hi a), .int .u64 (lo a)] 24)) 24 #[.int .u64 0, .int .u64 0]
    simpa using this
  go_enter Tryd.func51, Tryd.ntmps51
  go_wp2_with fail
  refine (H1 _).mono ?_
  rintro e w1 ⟨rfl, hb1⟩
  have Ba1 := Blk.carry (Ba.alloc _) hb1
  have Br1 := Blk.carry Br hb1
  clear Ba Br
  have c0 := cell_of0 Ba1
  have c1 := cell_of1 Ba1
  have l0 := Ba1.lt
  have lr := Br1.lt
  go_wp2_with fail
  refine (H2 _).mono ?_
  rintro e w2 ⟨rfl, hb2⟩
  have Br2 := Blk.carry Br1 hb2
  clear Ba1 Br1 c0 c1 l0 lr
  have r0 := cell_of0 Br2
  have r1 := cell_of1 Br2
  have f0 := Br2.frozen 0
  have f1 := Br2.frozen 1
  have lr := Br2.lt
  go_wp2
  exact bodyPost_ret (v := .tuple #[.agg #[.int .u64 0, .int .u64 0], .bool false]) (by simp [results, Tryd.results51, go_sem, r0, r1]) rfl ⟨rfl, by repeat (with_reducible first | exact Below.refl _ _ | assumption | refine below_al ?_ _ | refine below_set ?_ (by omega) | refine below_on ?_ (by assumption))⟩
set_option maxRecDepth 100000 in
set_option maxHeartbeats 2000000 in
theorem times_add (a p q t s d u : Nat) (b : Bool) (w : World) (H1 : ∀ w, Calls Tryd.prog 61 #[.int .u64 (lo a), .int .u64 10] w fun e w' => e = .returned (.tuple #[.int .u64 (p : Int), .int .u64 (q : Int)]) ∧ Below w.heap.size w w') (H2 : ∀ w, Calls Tryd.prog 61 #[.int .u64 (hi a), .int .u64 10] w fun e w' => e = .returned (.tuple #[.int .u64 0, .int .u64 (t : Int)]) ∧ Below w.heap.size w w') (H3 : ∀ w, (callFunc 42 #[.int .u64 (t : Int), .int .u64 (p : Int), .int .u64 0]).run Tryd.prog w = .ok (.value (.tuple #[.int .u64 (s : Int), .int .u64 0])) w) (hd : d < 256) (H4 : ∀ w, Calls Tryd.prog 38 #[.int .u64 (d : Int)] w fun e w' => e = .returned (A d) ∧ Below w.heap.size w w') (H5 : ∀ w, Calls Tryd.prog 23 #[.agg #[.int .u64 (s : Int), .int .u64 (q : Int)], A d] w fun e w' => e = .returned (.tuple #[.agg #[.int .u64 (hi u), .int .u64 (lo u)], .bool b]) ∧ Below w.heap.size w w') :
    Calls Tryd.prog 51 #[A a, .int .u8 (d : Int)] w fun e w' => e = .returned (.tuple #[.agg #[.int .u64 (hi u), .int .u64 (lo u)], .bool b]) ∧ Below w.heap.size w w' := by
  have Ba := Blk.new w 24 #[.int .u64 (hi a), .int .u64 (lo a)]
  have Br : Blk ((w.alloc (.cells #[.int .u64 (hi a), .int .u64 (lo a)] 24)).alloc (.cells #[.int .u64 0, .int .u64 0] 24)) (w.heap.size + 1) 24 #[.int .u64 0, .int .u64 0] := by
    have := Blk.new (w.alloc (.cells #[.int .u64 (hi a), .int .u64 (lo a)] 24)) 24 #[.int .u64 0, .int .u64 0]
    simpa using this
  go_enter Tryd.func51, Tryd.ntmps51
  go_wp2_with fail
  refine (H1 _).mono ?_
  rintro e w1 ⟨rfl, hb1⟩
  have Ba1 := Blk.carry (Ba.alloc _) hb1
  have Br1 := Blk.carry Br hb1
  clear Ba Br
  have c0 := cell_of0 Ba1
  have c1 := cell_of1 Ba1
  have l0 := Ba1.lt
  have lr := Br1.lt
  go_wp2_with fail
  refine (H2 _).mono ?_
  rintro e w2 ⟨rfl, hb2⟩
  have Br2 := Blk.carry Br1 hb2
  clear Ba1 Br1 c0 c1 l0 lr
  have r0 := cell_of0 Br2
  have r1 := cell_of1 Br2
  have f0 := Br2.frozen 0
  have f1 := Br2.frozen 1
  have lr := Br2.lt
  go_wp2_with fail
  refine (H4 _).mono ?_
  rintro e w3 ⟨rfl, hb3⟩
  have Br3 := Blk.carry Br2 hb3
  clear Br2 r0 r1 f0 f1 lr
  go_wp2_with fail
  refine (H5 _).mono ?_
  rintro e w4 ⟨rfl, hb4⟩
  have Br4 := Blk.carry Br3 hb4
  clear Br3
  have r0 := cell_of0 Br4
  have r1 := cell_of1 Br4
  have f0 := Br4.frozen 0
  have f1 := Br4.frozen 1
  have lr := Br4.lt
  go_wp2
  exact bodyPost_ret (v := .tuple #[.agg #[.int .u64 (hi u), .int .u64 (lo u)], .bool b]) (by simp [results, Tryd.results51, go_sem, r0, r1]) rfl ⟨rfl, by repeat (with_reducible first | exact Below.refl _ _ | assumption | refine below_al ?_ _ | refine below_set ?_ (by omega) | refine below_on ?_ (by assumption))⟩
theorem times_any (a d : Nat) (w : World) (ha : a < M) (hd : d < 10) :
    Calls Tryd.prog 51 #[A a, .int .u8 (d : Int)] w fun e w' => e = .returned (.tuple #[.agg #[.int .u64 (hi (sm (a * 10) d)), .int .u64 (lo (sm (a * 10) d))], .bool (ok2 (a * 10) d)]) ∧ Below w.heap.size w w' := by
  obtain ⟨p, hp⟩ : ∃ p, a % 18446744073709551616 * 10 / 18446744073709551616 = p := ⟨_, rfl⟩
  obtain ⟨q, hq⟩ : ∃ q, a % 18446744073709551616 * 10 % 18446744073709551616 = q := ⟨_, rfl⟩
  obtain ⟨r, hr⟩ : ∃ r, a / 18446744073709551616 * 10 / 18446744073709551616 = r := ⟨_, rfl⟩
  obtain ⟨t, ht⟩ : ∃ t, a / 18446744073709551616 * 10 % 18446744073709551616 = t := ⟨_, rfl⟩
  have H1 := fun w => mul_lo a p q w hp hq
  have H2 := fun w => mul_hi a r t w ha hr ht
  have H3 := fun w => add64_run t p 0 (by omega) w
  have e3 : lowS t p 0 = (t + p) % 18446744073709551616 := by simp [lowS]
  have e4 : carS t p 0 = (t + p) / 18446744073709551616 := by simp [carS]
  have hlo : lo (a * 10) = q := by unfold lo; omega
  by_cases h1 : r = 0
  · subst h1
    rcases (by unfold M at ha; omega : (t + p) / 18446744073709551616 = 0 ∨ (t + p) / 18446744073709551616 = 1) with h2 | h2
    · have hm : a * 10 < M := by unfold M; omega
      have hhi : hi (a * 10) = (lowS t p 0 : Nat) := by rw [e3]; unfold hi; omega
      rw [e4, h2] at H3
      refine times_add a p q t (lowS t p 0) d _ _ w H1 H2 H3 (by omega) (fun w => of_is d w (by omega)) (fun w => ?_)
      have := add_any (a * 10) d w hm (by unfold M; omega)
      rw [A, hhi, hlo] at this
      exact this
    · have hm : ¬ a * 10 + d < M := by unfold M; omega
      rw [show sm (a * 10) d = 0 from if_neg hm, show ok2 (a * 10) d = false from decide_eq_false hm, hi_zero, lo_zero]
      rw [e4, h2] at H3
      exact times_no2 a p q t (lowS t p 0) d w H1 H2 H3
  · have hm : ¬ a * 10 + d < M := by unfold M; omega
    rw [show sm (a * 10) d = 0 from if_neg hm, show ok2 (a * 10) d = false from decide_eq_false hm, hi_zero, lo_zero]
    exact times_no1 a p q r t (lowS t p 0) (carS t p 0) d w (by simpa using h1) H1 H2 H3
end Go.Proofs.YtjjlfkbgieloeaaDoor
