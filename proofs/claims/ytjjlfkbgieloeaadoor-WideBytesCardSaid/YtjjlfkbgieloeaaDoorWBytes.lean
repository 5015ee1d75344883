/- The walk of the law WideBytes. Conditions: those of its row. -/
import Derived.Test.YtjjlfkbgieloeaaDoorRefByt
import Derived.Test.YtjjlfkbgieloeaaDoorClass2
namespace Go.Proofs.YtjjlfkbgieloeaaDoor
open Go.RowKit Go.BigFrame
theorem self2 (x y : Int) : (x == x && y == y) = true := by simp
theorem cut_is (cut : Int) : ∃ k : Nat, k < 16 ∧ wrap64 ((IntKind.u64.wrap cut).tmod 16) = k := by
  have h := IntKind.wrap_u64 cut
  have h1 : 0 ≤ IntKind.u64.wrap cut := by omega
  have e : (IntKind.u64.wrap cut).tmod 16 = IntKind.u64.wrap cut % 16 := Int.tmod_eq_emod_of_nonneg h1
  rw [e, ← Go.PlainAid.i64_is, IntKind.wrap_i64]
  exact ⟨((IntKind.u64.wrap cut) % 16).toNat, by omega, by omega⟩
set_option maxHeartbeats 4000000 in
set_option maxRecDepth 100000 in
theorem bytes_in (a : Nat) (more : ByteArray) (cut : Int) (w : World) (ha : a < M) (hm : MostIs w) :
    Calls Tryd.prog 4 #[A a, .string more, .int .i64 cut] w fun e w' => e = .returned (.bool true) ∧ Below w.heap.size w w' := by
  have HA := Lib.hid ha
  clear ha
  have Ba := Blk.new w 24 #[.int .u64 (hi a), .int .u64 (lo a)]
  have hm0 : MostIs (w.alloc (.cells #[.int .u64 (hi a), .int .u64 (lo a)] 24)) := hm.below (below_al (Below.refl _ _) _)
  clear hm
  by_cases h100 : 100 < more.size
  · go_enter Tryd.func4, Tryd.ntmps4
    go_wp2_with fail
    refine (alive_true _ hm0).mono ?_
    rintro e w1 ⟨rfl, hb1⟩
    go_wp2
    go_ret
    exact ⟨rfl, by repeat (with_reducible first | exact Below.refl _ _ | assumption | refine below_al ?_ _ | refine below_on ?_ (by assumption))⟩
  · have hsz := bytesOf_size a
    obtain ⟨k, hk16, hk⟩ := cut_is cut
    go_enter Tryd.func4, Tryd.ntmps4
    go_wp2_with fail
    refine (alive_true _ hm0).mono ?_
    rintro e w1 ⟨rfl, hb1⟩
    have Ba1 := Blk.carry Ba hb1
    have c0 := cell_of0 Ba1
    have c1 := cell_of1 Ba1
    have l0 := Ba1.lt
    clear Ba hm0
    go_wp2_with fail
    refine (wbytes_any a _ HA.out).mono ?_
    rintro e w2 ⟨rfl, hb2⟩
    have Ba2 := Blk.carry Ba1 hb2
    clear c0 c1 l0 Ba1
    have c0 := cell_of0 Ba2
    have c1 := cell_of1 Ba2
    have l0 := Ba2.lt
    go_wp2_with fail
    refine (from_bytes a _ more _ HA.out rfl).mono ?_
    rintro e w3 ⟨rfl, hb3⟩
    have Ba3 := Blk.carry Ba2 hb3
    clear c0 c1 l0 Ba2
    have Bx : Blk (w3.alloc (.cells #[.int .u64 (hi a), .int .u64 (lo a)] 24)) w3.heap.size 24 #[.int .u64 (hi a), .int .u64 (lo a)] := Blk.new _ _ _
    have c0 := cell_of0 Ba3
    have c1 := cell_of1 Ba3
    have l0 := Ba3.lt
    have x0 := cell_of0 Bx
    have x1 := cell_of1 Bx
    have lx := Bx.lt
    go_wp2_with fail
    refine (refbytes_any a _).mono ?_
    rintro e w4 ⟨rfl, hb4⟩
    have Ba4 := Blk.carry (Ba3.alloc _) hb4
    have Bx4 := Blk.carry Bx hb4
    clear c0 c1 l0 Ba3 x0 x1 lx Bx
    go_wp2_with fail
    refine (from_no _ _ (by rw [ByteArray.size_extract]; omega)).mono ?_
    rintro e w5 ⟨rfl, hb5⟩
    have Ba5 := Blk.carry Ba4 hb5
    have Bx5 := Blk.carry Bx4 hb5
    clear Ba4 Bx4
    have By : Blk (w5.alloc (.cells #[.int .u64 0, .int .u64 0] 24)) w5.heap.size 24 #[.int .u64 0, .int .u64 0] := Blk.new _ _ _
    have c0 := cell_of0 Ba5
    have c1 := cell_of1 Ba5
    have l0 := Ba5.lt
    have x0 := cell_of0 Bx5
    have x1 := cell_of1 Bx5
    have lx := Bx5.lt
    go_wp2_with fail
    refine (refbytes_any a _).mono ?_
    rintro e w6 ⟨rfl, hb6⟩
    have Ba6 := Blk.carry (Ba5.alloc _) hb6
    have Bx6 := Blk.carry (Bx5.alloc _) hb6
    have By6 := Blk.carry By hb6
    clear Ba5 Bx5 By c0 c1 l0 x0 x1 lx
    have c0 := cell_of0 Ba6
    have c1 := cell_of1 Ba6
    have l0 := Ba6.lt
    have x0 := cell_of0 Bx6
    have x1 := cell_of1 Bx6
    have lx := Bx6.lt
    have y0 := cell_of0 By6
    have y1 := cell_of1 By6
    have ly := By6.lt
    go_wp2
    go_ret
    exact ⟨rfl, by repeat (with_reducible first | exact Below.refl _ _ | assumption | refine below_al ?_ _ | refine below_set ?_ (by omega) | refine below_drewN ?_ | refine below_dr ?_ | refine below_on ?_ (by assumption))⟩
theorem walkWideBytes (x0 : Int) (v0 : (Lit.int .u64 x0).wf = true) (x1 : Int) (v1 : (Lit.int .u64 x1).wf = true) (more : ByteArray) (_v2 : more.size ≤ maxLen) (cut : Int) (_v3 : (Lit.int .i64 cut).wf = true) (w : World) (hm : MostIs w) :
    Calls Tryd.prog 4 #[.agg #[.int .u64 x0, .int .u64 x1], .string more, .int .i64 cut] w fun e w' => e = .returned (.bool true) ∧ Below w.heap.size w w' := by
  obtain ⟨a, ha, rfl, rfl⟩ := num_of x0 x1 v0 v1
  exact bytes_in a more cut w ha hm
end Go.Proofs.YtjjlfkbgieloeaaDoor
