/- The contract of shelf.Of. Conditions: a number of 128 bits. -/
import Derived.Test.YtjjlfkbgieloeaaDoorRefTxt
import Derived.Test.YtjjlfkbgieloeaaDoorIdLaw
import Derived.Deep.RegionWith
import Derived.Deep.DrawnRows
namespace Go.Proofs.YtjjlfkbgieloeaaDoor
open Go.RowKit Go.PlainAid
attribute [local go_sem ↓] Go.wp_at_zero Go.wp_at_succ
set_option maxRecDepth 100000 in
set_option maxHeartbeats 4000000 in
theorem of_no (n : Nat) (tx G S : ByteArray) (st : Int) (w : World) (hsz : tx.size = 16) (e14 : bt tx 14 = st) (HB : ∀ w, Calls Tryd.prog 20 #[A n] w fun e w' => e = .returned (.string tx) ∧ Below w.heap.size w w') (HG : ∀ w, Calls Tryd.prog 47 #[.string (tx.extract 0 10), .string ⟨#[0]⟩] w fun e w' => e = .returned (.string G) ∧ w = w') (HS : ∀ w, Calls Tryd.prog 47 #[.string (tx.extract 10 14), .string ⟨#[0]⟩] w fun e w' => e = .returned (.string S) ∧ w = w')
    (HI : ∀ w, Calls Tryd.prog 30 #[.agg #[.string G, .string S, .int .i64 st]] w fun e w' => e = .returned (.tuple #[.agg #[.int .u64 0, .int .u64 0], .int .i64 1]) ∧ Below w.heap.size w w') :
    Calls Tryd.prog 33 #[A n] w fun e w' => e = .returned (.tuple #[.agg #[.string ⟨#[]⟩, .string ⟨#[]⟩, .int .i64 0], .bool false]) ∧ Below w.heap.size w w' := by
  have hbt := get_bt tx
  have s0 : 0 ≤ st ∧ st ≤ 255 := by rw [← e14]; exact ⟨bt_nonneg tx 14, bt_le tx 14⟩
  obtain ⟨s1, s2⟩ := s0
  have hwr : IntKind.i64.wrap st = st := IntWalk.i64_in _ (by omega)
  have Ba := Blk.new w 24 #[.int .u64 (hi n), .int .u64 (lo n)]
  have Br : Blk ((w.alloc (.cells #[.int .u64 (hi n), .int .u64 (lo n)] 24)).alloc (.cells #[.string ByteArray.empty, .string ByteArray.empty, .int .i64 0] 39)) (w.heap.size + 1) 39 #[.string ByteArray.empty, .string ByteArray.empty, .int .i64 0] := by
    have := Blk.new (w.alloc (.cells #[.int .u64 (hi n), .int .u64 (lo n)] 24)) 39 #[.string ByteArray.empty, .string ByteArray.empty, .int .i64 0]
    simpa using this
  go_enter Tryd.func33, Tryd.ntmps33
  go_wp2_with fail
  refine (HB _).mono ?_
  rintro e w1 ⟨rfl, hb1⟩
  have Ba1 := Blk.carry (Ba.alloc _) hb1
  have Br1 := Blk.carry Br hb1
  have hB1 := below_on (below_al (below_al (Below.refl _ w) (.cells #[.int .u64 (hi n), .int .u64 (lo n)] 24)) (.cells #[.string ByteArray.empty, .string ByteArray.empty, .int .i64 0] 39)) hb1
  have HZ := Lib.hid (And.intro Ba1 (And.intro Br1 hB1))
  have l0 := Br1.lt
  clear Ba Br Ba1 Br1 hb1 hB1
  go_wp2_with fail
  go_region_with (first | (go_at_call 47; (with_reducible refine (HG _).mono ?_); rintro e w2 ⟨rfl, rfl⟩) | (go_at_call 47; (with_reducible refine (HS _).mono ?_); rintro e w2 ⟨rfl, rfl⟩))
  all_goals
    have Ba2 := (HZ.out.1.alloc (.cells #[.string G, .string S, .int .i64 st] 39)).drew
    have Br2 := (HZ.out.2.1.alloc (.cells #[.string G, .string S, .int .i64 st] 39)).drew
    have hB2 := below_dr (below_al HZ.out.2.2 (.cells #[.string G, .string S, .int .i64 st] 39))
    have Bp2 : Blk (w1.alloc (.cells #[.string G, .string S, .int .i64 st] 39)).drew w1.heap.size 39 #[.string G, .string S, .int .i64 st] := (Blk.new _ _ _).drew
    go_wp2_with fail
    refine (HI _).mono ?_
    rintro e w3 ⟨rfl, hb3⟩
    have Ba3 := Blk.carry Ba2 hb3
    have Br3 := Blk.carry Br2 hb3
    have Bp3 := Blk.carry Bp2 hb3
    have hB3 := below_on hB2 hb3
    obtain ⟨c0, c1⟩ := (⟨cell_of0 Ba3, cell_of1 Ba3⟩ : _ ∧ _)
    obtain ⟨p0, p1, p2⟩ := plc_cells Bp3
    obtain ⟨r0, r1, r2⟩ := plc_cells Br3
    have f0 := Br3.frozen 0
    have f1 := Br3.frozen 1
    have f2 := Br3.frozen 2
    have la := Ba3.lt
    have lr := Br3.lt
    have lp := Bp3.lt
    have HZ3 := Lib.hid (And.intro Br3 hB3)
    clear Ba2 Br2 Bp2 hB2 Ba3 Br3 Bp3 hB3 hb3 HZ l0
    go_wp2
    have Bf := (((HZ3.out.1.set_ 0 (.string ⟨#[]⟩)).set_ 1 (.string ⟨#[]⟩)).set_ 2 (.int .i64 0)).alloc (.cells #[.int .u64 (0), .int .u64 (0)] 24)
    obtain ⟨q0, q1, q2⟩ := plc_cells Bf
    have hB4 := HZ3.out.2
    exact bodyPost_ret (v := .tuple #[.agg #[.string ⟨#[]⟩, .string ⟨#[]⟩, .int .i64 0], .bool false]) (by simp [results, Tryd.results33, go_sem, q0, q1, q2]) rfl ⟨rfl, by repeat (with_reducible first | exact Below.refl _ _ | assumption | refine below_al ?_ _ | refine below_set ?_ (by omega) | refine below_drewN ?_ | refine below_dr ?_ | refine below_on ?_ (by assumption))⟩
set_option maxRecDepth 100000 in
set_option maxHeartbeats 4000000 in
theorem of_ne (n : Nat) (tx G S : ByteArray) (st x y : Int) (w : World) (hsz : tx.size = 16) (e14 : bt tx 14 = st) (HB : ∀ w, Calls Tryd.prog 20 #[A n] w fun e w' => e = .returned (.string tx) ∧ Below w.heap.size w w') (HG : ∀ w, Calls Tryd.prog 47 #[.string (tx.extract 0 10), .string ⟨#[0]⟩] w fun e w' => e = .returned (.string G) ∧ w = w') (HS : ∀ w, Calls Tryd.prog 47 #[.string (tx.extract 10 14), .string ⟨#[0]⟩] w fun e w' => e = .returned (.string S) ∧ w = w')
    (HI : ∀ w, Calls Tryd.prog 30 #[.agg #[.string G, .string S, .int .i64 st]] w fun e w' => e = .returned (.tuple #[.agg #[.int .u64 x, .int .u64 y], .int .i64 0]) ∧ Below w.heap.size w w') (HN : (x == hi n && y == lo n) = false) :
    Calls Tryd.prog 33 #[A n] w fun e w' => e = .returned (.tuple #[.agg #[.string ⟨#[]⟩, .string ⟨#[]⟩, .int .i64 0], .bool false]) ∧ Below w.heap.size w w' := by
  have hbt := get_bt tx
  have s0 : 0 ≤ st ∧ st ≤ 255 := by rw [← e14]; exact ⟨bt_nonneg tx 14, bt_le tx 14⟩
  obtain ⟨s1, s2⟩ := s0
  have hwr : IntKind.i64.wrap st = st := IntWalk.i64_in _ (by omega)
  have Ba := Blk.new w 24 #[.int .u64 (hi n), .int .u64 (lo n)]
  have Br : Blk ((w.alloc (.cells #[.int .u64 (hi n), .int .u64 (lo n)] 24)).alloc (.cells #[.string ByteArray.empty, .string ByteArray.empty, .int .i64 0] 39)) (w.heap.size + 1) 39 #[.string ByteArray.empty, .string ByteArray.empty, .int .i64 0] := by
    have := Blk.new (w.alloc (.cells #[.int .u64 (hi n), .int .u64 (lo n)] 24)) 39 #[.string ByteArray.empty, .string ByteArray.empty, .int .i64 0]
    simpa using this
  go_enter Tryd.func33, Tryd.ntmps33
  go_wp2_with fail
  refine (HB _).mono ?_
  rintro e w1 ⟨rfl, hb1⟩
  have Ba1 := Blk.carry (Ba.alloc _) hb1
  have Br1 := Blk.carry Br hb1
  have hB1 := below_on (below_al (below_al (Below.refl _ w) (.cells #[.int .u64 (hi n), .int .u64 (lo n)] 24)) (.cells #[.string ByteArray.empty, .string ByteArray.empty, .int .i64 0] 39)) hb1
  have HZ := Lib.hid (And.intro Ba1 (And.intro Br1 hB1))
  have l0 := Br1.lt
  clear Ba Br Ba1 Br1 hb1 hB1
  go_wp2_with fail
  go_region_with (first | (go_at_call 47; (with_reducible refine (HG _).mono ?_); rintro e w2 ⟨rfl, rfl⟩) | (go_at_call 47; (with_reducible refine (HS _).mono ?_); rintro e w2 ⟨rfl, rfl⟩))
  all_goals
    have Ba2 := (HZ.out.1.alloc (.cells #[.string G, .string S, .int .i64 st] 39)).drew
    have Br2 := (HZ.out.2.1.alloc (.cells #[.string G, .string S, .int .i64 st] 39)).drew
    have hB2 := below_dr (below_al HZ.out.2.2 (.cells #[.string G, .string S, .int .i64 st] 39))
    have Bp2 : Blk (w1.alloc (.cells #[.string G, .string S, .int .i64 st] 39)).drew w1.heap.size 39 #[.string G, .string S, .int .i64 st] := (Blk.new _ _ _).drew
    go_wp2_with fail
    refine (HI _).mono ?_
    rintro e w3 ⟨rfl, hb3⟩
    have Ba3 := Blk.carry Ba2 hb3
    have Br3 := Blk.carry Br2 hb3
    have Bp3 := Blk.carry Bp2 hb3
    have hB3 := below_on hB2 hb3
    obtain ⟨c0, c1⟩ := (⟨cell_of0 Ba3, cell_of1 Ba3⟩ : _ ∧ _)
    obtain ⟨p0, p1, p2⟩ := plc_cells Bp3
    obtain ⟨r0, r1, r2⟩ := plc_cells Br3
    have f0 := Br3.frozen 0
    have f1 := Br3.frozen 1
    have f2 := Br3.frozen 2
    have la := Ba3.lt
    have lr := Br3.lt
    have lp := Bp3.lt
    have HZ3 := Lib.hid (And.intro Br3 hB3)
    clear Ba2 Br2 Bp2 hB2 Ba3 Br3 Bp3 hB3 hb3 HZ l0
    have k2 : (x == hi n) = false ∨ (x = hi n ∧ (y == lo n) = false) := by
      by_cases u : x = hi n
      · right
        refine ⟨u, ?_⟩
        simpa [u] using HN
      · left
        simpa using u
    clear HN
    rcases k2 with u2 | ⟨rfl, u2⟩
    · go_wp2
      have Bf := (((HZ3.out.1.set_ 0 (.string ⟨#[]⟩)).set_ 1 (.string ⟨#[]⟩)).set_ 2 (.int .i64 0)).alloc (.cells #[.int .u64 (x), .int .u64 (y)] 24)
      obtain ⟨q0, q1, q2⟩ := plc_cells Bf
      have hB4 := HZ3.out.2
      exact bodyPost_ret (v := .tuple #[.agg #[.string ⟨#[]⟩, .string ⟨#[]⟩, .int .i64 0], .bool false]) (by simp [results, Tryd.results33, go_sem, q0, q1, q2]) rfl ⟨rfl, by repeat (with_reducible first | exact Below.refl _ _ | assumption | refine below_al ?_ _ | refine below_set ?_ (by omega) | refine below_drewN ?_ | refine below_dr ?_ | refine below_on ?_ (by assumption))⟩
    · go_wp2
      have Bf := (((HZ3.out.1.set_ 0 (.string ⟨#[]⟩)).set_ 1 (.string ⟨#[]⟩)).set_ 2 (.int .i64 0)).alloc (.cells #[.int .u64 (hi n), .int .u64 (y)] 24)
      obtain ⟨q0, q1, q2⟩ := plc_cells Bf
      have hB4 := HZ3.out.2
      exact bodyPost_ret (v := .tuple #[.agg #[.string ⟨#[]⟩, .string ⟨#[]⟩, .int .i64 0], .bool false]) (by simp [results, Tryd.results33, go_sem, q0, q1, q2]) rfl ⟨rfl, by repeat (with_reducible first | exact Below.refl _ _ | assumption | refine below_al ?_ _ | refine below_set ?_ (by omega) | refine below_drewN ?_ | refine below_dr ?_ | refine below_on ?_ (by assumption))⟩
set_option maxRecDepth 100000 in
set_option maxHeartbeats 4000000 in
theorem of_eq (n : Nat) (tx G S : ByteArray) (st : Int) (w : World) (hsz : tx.size = 16) (e14 : bt tx 14 = st) (HB : ∀ w, Calls Tryd.prog 20 #[A n] w fun e w' => e = .returned (.string tx) ∧ Below w.heap.size w w') (HG : ∀ w, Calls Tryd.prog 47 #[.string (tx.extract 0 10), .string ⟨#[0]⟩] w fun e w' => e = .returned (.string G) ∧ w = w') (HS : ∀ w, Calls Tryd.prog 47 #[.string (tx.extract 10 14), .string ⟨#[0]⟩] w fun e w' => e = .returned (.string S) ∧ w = w')
    (HI : ∀ w, Calls Tryd.prog 30 #[.agg #[.string G, .string S, .int .i64 st]] w fun e w' => e = .returned (.tuple #[A n, .int .i64 0]) ∧ Below w.heap.size w w') :
    Calls Tryd.prog 33 #[A n] w fun e w' => e = .returned (.tuple #[.agg #[.string G, .string S, .int .i64 st], .bool true]) ∧ Below w.heap.size w w' := by
  have hbt := get_bt tx
  have s0 : 0 ≤ st ∧ st ≤ 255 := by rw [← e14]; exact ⟨bt_nonneg tx 14, bt_le tx 14⟩
  obtain ⟨s1, s2⟩ := s0
  have hwr : IntKind.i64.wrap st = st := IntWalk.i64_in _ (by omega)
  have Ba := Blk.new w 24 #[.int .u64 (hi n), .int .u64 (lo n)]
  have Br : Blk ((w.alloc (.cells #[.int .u64 (hi n), .int .u64 (lo n)] 24)).alloc (.cells #[.string ByteArray.empty, .string ByteArray.empty, .int .i64 0] 39)) (w.heap.size + 1) 39 #[.string ByteArray.empty, .string ByteArray.empty, .int .i64 0] := by
    have := Blk.new (w.alloc (.cells #[.int .u64 (hi n), .int .u64 (lo n)] 24)) 39 #[.string ByteArray.empty, .string ByteArray.empty, .int .i64 0]
    simpa using this
  go_enter Tryd.func33, Tryd.ntmps33
  go_wp2_with fail
  refine (HB _).mono ?_
  rintro e w1 ⟨rfl, hb1⟩
  have Ba1 := Blk.carry (Ba.alloc _) hb1
  have Br1 := Blk.carry Br hb1
  have hB1 := below_on (below_al (below_al (Below.refl _ w) (.cells #[.int .u64 (hi n), .int .u64 (lo n)] 24)) (.cells #[.string ByteArray.empty, .string ByteArray.empty, .int .i64 0] 39)) hb1
  have HZ := Lib.hid (And.intro Ba1 (And.intro Br1 hB1))
  have l0 := Br1.lt
  clear Ba Br Ba1 Br1 hb1 hB1
  go_wp2_with fail
  go_region_with (first | (go_at_call 47; (with_reducible refine (HG _).mono ?_); rintro e w2 ⟨rfl, rfl⟩) | (go_at_call 47; (with_reducible refine (HS _).mono ?_); rintro e w2 ⟨rfl, rfl⟩))
  all_goals
    have Ba2 := (HZ.out.1.alloc (.cells #[.string G, .string S, .int .i64 st] 39)).drew
    have Br2 := (HZ.out.2.1.alloc (.cells #[.string G, .string S, .int .i64 st] 39)).drew
    have hB2 := below_dr (below_al HZ.out.2.2 (.cells #[.string G, .string S, .int .i64 st] 39))
    have Bp2 : Blk (w1.alloc (.cells #[.string G, .string S, .int .i64 st] 39)).drew w1.heap.size 39 #[.string G, .string S, .int .i64 st] := (Blk.new _ _ _).drew
    go_wp2_with fail
    refine (HI _).mono ?_
    rintro e w3 ⟨rfl, hb3⟩
    have Ba3 := Blk.carry Ba2 hb3
    have Br3 := Blk.carry Br2 hb3
    have Bp3 := Blk.carry Bp2 hb3
    have hB3 := below_on hB2 hb3
    obtain ⟨c0, c1⟩ := (⟨cell_of0 Ba3, cell_of1 Ba3⟩ : _ ∧ _)
    obtain ⟨p0, p1, p2⟩ := plc_cells Bp3
    obtain ⟨r0, r1, r2⟩ := plc_cells Br3
    have f0 := Br3.frozen 0
    have f1 := Br3.frozen 1
    have f2 := Br3.frozen 2
    have la := Ba3.lt
    have lr := Br3.lt
    have lp := Bp3.lt
    have HZ3 := Lib.hid (And.intro Br3 hB3)
    clear Ba2 Br2 Bp2 hB2 Ba3 Br3 Bp3 hB3 hb3 HZ l0
    go_wp2
    have Bf := (((HZ3.out.1.set_ 0 (.string G)).set_ 1 (.string S)).set_ 2 (.int .i64 st)).alloc (.cells #[.int .u64 (hi n), .int .u64 (lo n)] 24)
    obtain ⟨q0, q1, q2⟩ := plc_cells Bf
    have hB4 := HZ3.out.2
    exact bodyPost_ret (v := .tuple #[.agg #[.string G, .string S, .int .i64 st], .bool true]) (by simp [results, Tryd.results33, go_sem, q0, q1, q2]) rfl ⟨rfl, by repeat (with_reducible first | exact Below.refl _ _ | assumption | refine below_al ?_ _ | refine below_set ?_ (by omega) | refine below_drewN ?_ | refine below_dr ?_ | refine below_on ?_ (by assumption))⟩
end Go.Proofs.YtjjlfkbgieloeaaDoor
