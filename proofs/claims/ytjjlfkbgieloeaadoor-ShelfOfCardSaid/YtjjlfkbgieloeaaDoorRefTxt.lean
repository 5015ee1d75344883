/- The contract of the reference's Bytes (layer 26). Conditions: a place's bounds. -/
import Derived.Test.YtjjlfkbgieloeaaDoorFill
import Derived.Test.YtjjlfkbgieloeaaDoorId
import Derived.Deep.RegionHeld3
namespace Go.Proofs.YtjjlfkbgieloeaaDoor
open Go.RowKit Go.PlainAid
theorem conv_two (w : World) (x y : Int) : (convert 59 9 (.slice (some ⟨w.heap.size, 0, none⟩) 2 2)).run Tryd.prog (w.alloc (.cells #[.int .u8 x, .int .u8 y] 5)) = .ok (.string (strOfNums [x, y])) (w.alloc (.cells #[.int .u8 x, .int .u8 y] 5)) :=
  run_convert_bytes_arg (P := Tryd.prog) _ 59 5 Tryd.underlying59 Tryd.underlying5 w.heap.size 0 2 2 [x, y] rfl (fun i hi => by
    rw [Nat.zero_add, (Blk.new w 5 #[.int .u8 x, .int .u8 y]).cell i]
    rcases (by omega : i = 0 ∨ i = 1) with rfl | rfl <;> rfl) 9 Tryd.underlying9
theorem conv_two_d (w : World) (x y : Int) : (convert 59 9 (.slice (some ⟨w.heap.size, 0, none⟩) 2 2)).run Tryd.prog (w.alloc (.cells #[.int .u8 x, .int .u8 y] 5)).drew = .ok (.string (strOfNums [x, y])) (w.alloc (.cells #[.int .u8 x, .int .u8 y] 5)).drew := conv_two w.drew x y
theorem fill_ten (s : ByteArray) (w : World) : Calls Tryd.prog 48 #[.string s, .int .i64 10] w fun e w' => e = .returned (.string (padS s (10 - s.size))) ∧ w = w' := fill_same s 10 w (by omega)
theorem fill_four (s : ByteArray) (w : World) : Calls Tryd.prog 48 #[.string s, .int .i64 4] w fun e w' => e = .returned (.string (padS s (4 - s.size))) ∧ w = w' := fill_same s 4 w (by omega)
set_option maxRecDepth 100000 in
set_option maxHeartbeats 2000000 in
theorem reftext_any (g s : ByteArray) (st : Int) (w : World) (h1 : g.size ≤ 10) (h2 : s.size ≤ 4) (h3 : 0 ≤ st) (h4 : st ≤ 2) :
    Calls Tryd.prog 34 #[.string g, .string s, .int .i64 st] w fun e w' => e = .returned (.string (padS g (10 - g.size) ++ padS s (4 - s.size) ++ strOfNums [st, 1])) ∧ Below w.heap.size w w' := by
  have z1 : (padS g (10 - g.size)).size = 10 := by rw [padS_size]; omega
  have z2 : (padS s (4 - s.size)).size = 4 := by rw [padS_size]; omega
  have z3 : (strOfNums [st, 1]).size = 2 := rfl
  have z4 : (padS g (10 - g.size) ++ padS s (4 - s.size)).size = 14 := by rw [ByteArray.size_append]; omega
  have hq : IntKind.u8.wrap st = st := IntWalk.u8_in _ (by omega)
  have hcv := conv_two_d
  go_enter Tryd.func34, Tryd.ntmps34
  go_wp2_with fail
  go_region_with (first | (go_at_call 48; (with_reducible refine (fill_ten _ _).mono ?_); rintro e w1 ⟨rfl, rfl⟩) | (go_at_call 48; (with_reducible refine (fill_four _ _).mono ?_); rintro e w2 ⟨rfl, rfl⟩))
  all_goals go_wp2
  all_goals go_ret
  all_goals exact ⟨rfl, by repeat (with_reducible first | exact Below.refl _ _ | assumption | refine below_al ?_ _ | refine below_drewN ?_ | refine below_dr ?_ | refine below_on ?_ (by assumption))⟩
end Go.Proofs.YtjjlfkbgieloeaaDoor
