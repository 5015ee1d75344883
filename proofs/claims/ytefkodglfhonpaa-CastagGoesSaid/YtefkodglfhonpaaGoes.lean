/- The walk of the law CastagGoes. Conditions: those of its row. -/
import Derived.Test.YtefkodglfhonpaaFn2
namespace Go.Proofs.Ytefkodglfhonpaa
open Go.RowKit
theorem goes_out (a0 : ByteArray) (a1 : Int) (w : World) (h : 2048 < a0.size ∨ a1 < 0 ∨ a0.size < a1) :
    Calls Try.prog 3 #[.string a0, .int .i64 a1] w fun e w' => e = .returned (.bool true) ∧ Below w.heap.size w w' := by
  go_enter Try.func3, Try.ntmps3
  go_wp2_with (go_at_call 8; refine (alive_true _).mono ?_; rintro e w' ⟨rfl, rfl⟩)
  all_goals (go_ret; exact ⟨rfl, Below.refl _ _⟩)
theorem goes_eq (s : ByteArray) (k : Nat) : (I (Crc.sum (Crc.sum 0#32 (List.take k s.data.toList)) (List.take (s.size - k) (List.drop k s.data.toList))) == I (Crc.sum 0#32 s.data.toList)) = true := by
  rw [List.take_of_length_le (l := List.drop k s.data.toList) (by simp), Crc.sum_append, List.take_append_drop]
  simp
theorem goes_in (s : ByteArray) (k : Nat) (w : World) (h : s.size ≤ 2048) (hk : k ≤ s.size) :
    Calls Try.prog 3 #[.string s, .int .i64 k] w fun e w' => e = .returned (.bool true) ∧ Below w.heap.size w w' := by
  have h0 : (0 : Int) ≤ (k : Int) := by omega
  have h1 : (k : Int) ≤ (s.size : Int) := by omega
  go_enter Try.func3, Try.ntmps3
  go_wp2_with (go_at_call 8; refine (alive_true _).mono ?_; rintro e w' ⟨rfl, rfl⟩)
  go_quiet ((go_at_call 9; first | ((with_reducible refine qs (castag_Sum0 _ ?_ _)); (first | omega | (simp; omega))) | ((with_reducible refine qs (castag_Sum _ _ ?_ _)); (first | omega | (simp; omega)))))
  go_wp2
  go_ret
  exact ⟨ret_bool (goes_eq s k), drewN_below _ _⟩
theorem walkCastagGoes (a0 : ByteArray) (a1 : Int) (_ : a0.size ≤ maxLen) (_ : (Lit.int .i64 a1).wf = true) (w : World) :
    Calls Try.prog 3 #[.string a0, .int .i64 a1] w fun e w' => e = .returned (.bool true) ∧ Below w.heap.size w w' := by
  by_cases h : 2048 < a0.size ∨ a1 < 0 ∨ a0.size < a1
  · exact goes_out a0 a1 w h
  · obtain ⟨k, rfl⟩ : ∃ k : Nat, a1 = k := ⟨a1.toNat, by omega⟩
    exact goes_in a0 k w (by omega) (by omega)
end Go.Proofs.Ytefkodglfhonpaa
