/- The walk of the law WideOrder. Conditions: those of its row. -/
import Derived.Test.YtjjlfkbgieloeaaDoorOrdLt
import Derived.Test.YtjjlfkbgieloeaaDoorOrdLn
import Derived.Test.YtjjlfkbgieloeaaDoorOrdEq
import Derived.Test.YtjjlfkbgieloeaaDoorOrdGt
namespace Go.Proofs.YtjjlfkbgieloeaaDoor
open Go.RowKit
theorem ref_less_yes (a b : Nat) (w : World) (ha : a < M) (hb : b < M) (h : a < b) :
    Calls Tryd.prog 15 #[A a, A b] w fun e w' => e = .returned (.bool true) ∧ Below w.heap.size w w' := (ref_less a b w ha hb).mono fun _ _ ⟨he, hw⟩ => ⟨by rw [he, decide_eq_true h], hw⟩
theorem ref_less_no (a b : Nat) (w : World) (ha : a < M) (hb : b < M) (h : ¬ a < b) :
    Calls Tryd.prog 15 #[A a, A b] w fun e w' => e = .returned (.bool false) ∧ Below w.heap.size w w' := (ref_less a b w ha hb).mono fun _ _ ⟨he, hw⟩ => ⟨by rw [he, decide_eq_false h], hw⟩
theorem compare_is (a b : Nat) (n : Int) (w : World) (h : cmpN a b = n) :
    Calls Tryd.prog 16 #[A a, A b] w fun e w' => e = .returned (.int .i64 n) ∧ Below w.heap.size w w' := h ▸ compare_any a b w
theorem min_is (a b m : Nat) (w : World) (h : (if b < a then b else a) = m) :
    Calls Tryd.prog 18 #[A a, A b] w fun e w' => e = .returned (.agg #[.int .u64 (hi m), .int .u64 (lo m)]) ∧ Below w.heap.size w w' := h ▸ min_any a b w
theorem same (a : Nat) : (hi a == hi a && lo a == lo a) = true := by simp
theorem differ (a b : Nat) (h : ¬ a = b) : (hi a == hi b && lo a == lo b) = false := by
  have h1 := hi_lo a
  have h2 := hi_lo b
  rw [Bool.and_eq_false_iff]
  by_cases f : hi a = hi b
  · right
    simp only [beq_eq_false_iff_ne, ne_eq]
    omega
  · left
    simpa using f
theorem order_all (a b c : Nat) (w : World) (ha : a < M) (hb : b < M) (hc : c < M) (hm : MostIs w) :
    Calls Tryd.prog 3 #[A a, A b, A c] w fun e w' => e = .returned (.bool true) ∧ Below w.heap.size w w' := by
  have HM : Hid (¬ M - 1 < a) := Lib.hid (by omega)
  by_cases h1 : a < b
  · have n1 : cmpN a b = -1 := by unfold cmpN; rw [if_neg (by omega), if_pos h1]
    have n2 : cmpN b a = 1 := by unfold cmpN; rw [if_neg (by omega), if_neg (by omega)]
    by_cases h2 : b < c
    · exact order_Lt a b c w hm (fun w => ref_less_yes a b w ha hb h1) (fun w => compare_is a b _ w n1) (fun w => compare_is b a _ w n2) (fun w => less_yes a b w h1) (fun w => min_is a b a w (if_neg (by omega))) (fun w => ref_less_yes b c w hb hc h2) (fun w => less_yes a c w (by omega)) (differ a b (by omega)) (same a) HM
    · exact order_Ln a b c w hm (fun w => ref_less_yes a b w ha hb h1) (fun w => compare_is a b _ w n1) (fun w => compare_is b a _ w n2) (fun w => less_yes a b w h1) (fun w => min_is a b a w (if_neg (by omega))) (fun w => ref_less_no b c w hb hc h2) (differ a b (by omega)) (same a) HM
  · by_cases h2 : a = b
    · have n1 : cmpN a b = 0 := by unfold cmpN; rw [if_pos h2]
      have n2 : cmpN b a = 0 := by unfold cmpN; rw [if_pos h2.symm]
      exact order_Eq a b c w hm (fun w => ref_less_no a b w ha hb h1) (fun w => compare_is a b _ w n1) (fun w => compare_is b a _ w n2) (fun w => less_no a b w h1) (fun w => min_is a b b w (by rw [if_neg (by omega)]; exact h2)) (by rw [h2]; exact same b) (same b) HM
    · have n1 : cmpN a b = 1 := by unfold cmpN; rw [if_neg h2, if_neg h1]
      have n2 : cmpN b a = -1 := by unfold cmpN; rw [if_neg (by omega), if_pos (by omega)]
      exact order_Gt a b c w hm (fun w => ref_less_no a b w ha hb h1) (fun w => compare_is a b _ w n1) (fun w => compare_is b a _ w n2) (fun w => less_no a b w h1) (fun w => min_is a b b w (if_pos (by omega))) (differ a b h2) (same b) HM
theorem walkWideOrder (x0 : Int) (v0 : (Lit.int .u64 x0).wf = true) (x1 : Int) (v1 : (Lit.int .u64 x1).wf = true) (y0 : Int) (u0 : (Lit.int .u64 y0).wf = true) (y1 : Int) (u1 : (Lit.int .u64 y1).wf = true) (z0 : Int) (t0 : (Lit.int .u64 z0).wf = true) (z1 : Int) (t1 : (Lit.int .u64 z1).wf = true) (w : World) (hm : MostIs w) :
    Calls Tryd.prog 3 #[.agg #[.int .u64 x0, .int .u64 x1], .agg #[.int .u64 y0, .int .u64 y1], .agg #[.int .u64 z0, .int .u64 z1]] w fun e w' => e = .returned (.bool true) ∧ Below w.heap.size w w' := by
  obtain ⟨a, ha, rfl, rfl⟩ := num_of x0 x1 v0 v1
  obtain ⟨b, hb, rfl, rfl⟩ := num_of y0 y1 u0 u1
  obtain ⟨c, hc, rfl, rfl⟩ := num_of z0 z1 t0 t1
  exact order_all a b c w ha hb hc hm
end Go.Proofs.YtjjlfkbgieloeaaDoor
