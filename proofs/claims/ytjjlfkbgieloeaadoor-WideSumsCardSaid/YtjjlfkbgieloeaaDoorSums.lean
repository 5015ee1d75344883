/- The walk of the law WideSums. Conditions: those of its row. -/
import Derived.Test.YtjjlfkbgieloeaaDoorRefSub
import Derived.Test.YtjjlfkbgieloeaaDoorSumsA
import Derived.Test.YtjjlfkbgieloeaaDoorSumsB
import Derived.Test.YtjjlfkbgieloeaaDoorSumsC
namespace Go.Proofs.YtjjlfkbgieloeaaDoor
open Go.RowKit
theorem as_tuple {f : Nat} {args : Array Value} {w : World} {x y x' y' : Int} {p q : Bool} (h : Calls Tryd.prog f args w fun e w' => e = .returned (.tuple #[.agg #[.int .u64 x, .int .u64 y], .bool p]) ∧ Below w.heap.size w w') (h1 : x = x') (h2 : y = y') (h3 : p = q) :
    Calls Tryd.prog f args w fun e w' => e = .returned (.tuple #[.agg #[.int .u64 x', .int .u64 y'], .bool q]) ∧ Below w.heap.size w w' := by subst h1 h2 h3; exact h
theorem sums_all (a b c : Nat) (w : World) (ha : a < M) (hb : b < M) (hc : c < M) (hm : MostIs w) :
    Calls Tryd.prog 6 #[A a, A b, A c] w fun e w' => e = .returned (.bool true) ∧ Below w.heap.size w w' := by
  have hsm : sm a b < M := by
    unfold sm
    split
    · assumption
    · decide
  by_cases h1 : a + b < M
  · have k1 : ok2 a b = true := decide_eq_true h1
    have s1 : sm a b = a + b := if_pos h1
    have hback : sm a b - b = a := by omega
    by_cases h2 : a + b + c < M
    · have k2 : ok2 (sm a b) c = true := decide_eq_true (by omega)
      have k3 : ok3 a b c = true := decide_eq_true h2
      have s3 : sm (sm a b) c = sm3 a b c := by unfold sm3; rw [if_pos h2, s1]; exact if_pos h2
      exact sums_C a b c (sm a b) (a - b) (sm3 a b c) (decide (¬ a < b)) w hm (fun w => as_tuple (add_any a b w ha hb) rfl rfl k1) (fun w => as_tuple (ref_add a b w ha hb) rfl rfl k1) (fun w => sub_any a b w ha) (fun w => ref_sub a b w ha hb)
        (fun w g cap hg => as_tuple (sum3_any a b c g cap w ha hb hc hg) rfl rfl k3) (fun w => as_tuple (ref_add (sm a b) c w hsm hc) (by rw [s3]) (by rw [s3]) k2) (fun w => as_tuple (sub_any (sm a b) b w hsm) (by rw [hback]) (by rw [hback]) (decide_eq_true (by omega)))
    · have k2 : ok2 (sm a b) c = false := decide_eq_false (by omega)
      have k3 : ok3 a b c = false := decide_eq_false h2
      have s3 : sm3 a b c = 0 := if_neg h2
      exact sums_B a b c (sm a b) (a - b) (sm (sm a b) c) (decide (¬ a < b)) w hm (fun w => as_tuple (add_any a b w ha hb) rfl rfl k1) (fun w => as_tuple (ref_add a b w ha hb) rfl rfl k1) (fun w => sub_any a b w ha) (fun w => ref_sub a b w ha hb)
        (fun w g cap hg => as_tuple (sum3_any a b c g cap w ha hb hc hg) (by rw [s3, hi_zero]) (by rw [s3, lo_zero]) k3) (fun w => as_tuple (ref_add (sm a b) c w hsm hc) rfl rfl k2) (fun w => as_tuple (sub_any (sm a b) b w hsm) (by rw [hback]) (by rw [hback]) (decide_eq_true (by omega)))
  · have k1 : ok2 a b = false := decide_eq_false h1
    have k3 : ok3 a b c = false := decide_eq_false (by omega)
    have s3 : sm3 a b c = 0 := if_neg (by omega)
    exact sums_A a b c (sm a b) (a - b) (sm (sm a b) c) (decide (¬ a < b)) (ok2 (sm a b) c) w hm (fun w => as_tuple (add_any a b w ha hb) rfl rfl k1) (fun w => as_tuple (ref_add a b w ha hb) rfl rfl k1) (fun w => sub_any a b w ha) (fun w => ref_sub a b w ha hb)
        (fun w g cap hg => as_tuple (sum3_any a b c g cap w ha hb hc hg) (by rw [s3, hi_zero]) (by rw [s3, lo_zero]) k3) (fun w => ref_add (sm a b) c w hsm hc)
theorem walkWideSums (x0 : Int) (v0 : (Lit.int .u64 x0).wf = true) (x1 : Int) (v1 : (Lit.int .u64 x1).wf = true) (y0 : Int) (u0 : (Lit.int .u64 y0).wf = true) (y1 : Int) (u1 : (Lit.int .u64 y1).wf = true) (z0 : Int) (t0 : (Lit.int .u64 z0).wf = true) (z1 : Int) (t1 : (Lit.int .u64 z1).wf = true) (w : World) (hm : MostIs w) :
    Calls Tryd.prog 6 #[.agg #[.int .u64 x0, .int .u64 x1], .agg #[.int .u64 y0, .int .u64 y1], .agg #[.int .u64 z0, .int .u64 z1]] w fun e w' => e = .returned (.bool true) ∧ Below w.heap.size w w' := by
  obtain ⟨a, ha, rfl, rfl⟩ := num_of x0 x1 v0 v1
  obtain ⟨b, hb, rfl, rfl⟩ := num_of y0 y1 u0 u1
  obtain ⟨c, hc, rfl, rfl⟩ := num_of z0 z1 t0 t1
  exact sums_all a b c w ha hb hc hm
end Go.Proofs.YtjjlfkbgieloeaaDoor
