/- The sums' contracts in one form each, whether they are too great or not. Conditions: numbers of 128 bits. -/
import Derived.Test.YtjjlfkbgieloeaaDoorSum
import Derived.Test.YtjjlfkbgieloeaaDoorBit
import Derived.Test.YtjjlfkbgieloeaaDoorAlive
namespace Go.Proofs.YtjjlfkbgieloeaaDoor
open Go.RowKit
def sm (a b : Nat) : Nat := if a + b < M then a + b else 0
def ok2 (a b : Nat) : Bool := decide (a + b < M)
def sm3 (a b c : Nat) : Nat := if a + b + c < M then a + b + c else 0
def ok3 (a b c : Nat) : Bool := decide (a + b + c < M)
def mn (a b : Nat) : Nat := if b < a then b else a
theorem sm_comm (a b : Nat) : sm b a = sm a b := by unfold sm; rw [Nat.add_comm]
theorem ok2_comm (a b : Nat) : ok2 b a = ok2 a b := by unfold ok2; rw [Nat.add_comm]
theorem sm3_comm (a b c : Nat) : sm3 c a b = sm3 a b c := by unfold sm3; rw [show c + a + b = a + b + c by omega]
theorem ok3_comm (a b c : Nat) : ok3 c a b = ok3 a b c := by unfold ok3; rw [show c + a + b = a + b + c by omega]
theorem mn_comm (a b : Nat) : mn b a = mn a b := by
  unfold mn
  by_cases h1 : a < b
  · rw [if_pos h1, if_neg (by omega)]
  · rw [if_neg h1]
    by_cases h2 : b < a
    · rw [if_pos h2]
    · rw [if_neg h2]; omega
theorem hi_zero : hi 0 = 0 := by decide
theorem lo_zero : lo 0 = 0 := by decide
theorem add_any (a b : Nat) (w : World) (ha : a < M) (hb : b < M) :
    Calls Tryd.prog 23 #[A a, A b] w fun e w' => e = .returned (.tuple #[.agg #[.int .u64 (hi (sm a b)), .int .u64 (lo (sm a b))], .bool (ok2 a b)]) ∧ Below w.heap.size w w' := by
  unfold sm ok2
  by_cases h : a + b < M
  · rw [if_pos h, decide_eq_true h]
    exact add_yes a b w h
  · rw [if_neg h, decide_eq_false h, hi_zero, lo_zero]
    exact add_no a b w ha hb (by omega)
theorem add_any' (a b : Nat) (w : World) (ha : a < M) (hb : b < M) :
    Calls Tryd.prog 23 #[A b, A a] w fun e w' => e = .returned (.tuple #[.agg #[.int .u64 (hi (sm a b)), .int .u64 (lo (sm a b))], .bool (ok2 a b)]) ∧ Below w.heap.size w w' := by
  rw [← sm_comm, ← ok2_comm]
  exact add_any b a w hb ha
theorem sum3_any (a b c g cap : Nat) (w : World) (ha : a < M) (hb : b < M) (hc : c < M) (hg : Blk w g 24 (threes a b c)) :
    Calls Tryd.prog 24 #[.slice (some ⟨g, 0, none⟩) 3 cap] w fun e w' => e = .returned (.tuple #[.agg #[.int .u64 (hi (sm3 a b c)), .int .u64 (lo (sm3 a b c))], .bool (ok3 a b c)]) ∧ Below w.heap.size w w' := by
  refine (sum_any a b c g cap w ha hb hc hg).mono fun e w' ⟨h1, h2, h3⟩ => ⟨?_, h3⟩
  unfold sm3 ok3
  by_cases h : a + b + c < M
  · rw [if_pos h, decide_eq_true h]; exact h1 h
  · rw [if_neg h, decide_eq_false h, hi_zero, lo_zero]; exact h2 h
theorem sum3_any' (a b c g cap : Nat) (w : World) (ha : a < M) (hb : b < M) (hc : c < M) (hg : Blk w g 24 (threes c a b)) :
    Calls Tryd.prog 24 #[.slice (some ⟨g, 0, none⟩) 3 cap] w fun e w' => e = .returned (.tuple #[.agg #[.int .u64 (hi (sm3 a b c)), .int .u64 (lo (sm3 a b c))], .bool (ok3 a b c)]) ∧ Below w.heap.size w w' := by
  rw [← sm3_comm, ← ok3_comm]
  exact sum3_any c a b g cap w hc ha hb hg
theorem mn_any (a b : Nat) (w : World) : Calls Tryd.prog 18 #[A a, A b] w fun e w' => e = .returned (.agg #[.int .u64 (hi (mn a b)), .int .u64 (lo (mn a b))]) ∧ Below w.heap.size w w' := min_any a b w
theorem mn_any' (a b : Nat) (w : World) : Calls Tryd.prog 18 #[A b, A a] w fun e w' => e = .returned (.agg #[.int .u64 (hi (mn a b)), .int .u64 (lo (mn a b))]) ∧ Below w.heap.size w w' := by
  rw [← mn_comm]; exact min_any b a w
theorem Blk.carry {w w' : World} {g : Nat} {t : TypeId} {cs : Array Value} (h : Blk w g t cs) (hb : Below w.heap.size w w') : Blk w' g t cs := h.below hb h.lt
/-- a number's two halves are of one number -/
theorem num_of (h l : Int) (wh : (Lit.int .u64 h).wf = true) (wl : (Lit.int .u64 l).wf = true) : ∃ n : Nat, n < M ∧ h = hi n ∧ l = lo n := by
  have b1 : 0 ≤ h ∧ h ≤ 18446744073709551615 := by simpa [Lit.wf, IntKind.min, IntKind.max, IntKind.signed, IntKind.bits] using wh
  have b2 : 0 ≤ l ∧ l ≤ 18446744073709551615 := by simpa [Lit.wf, IntKind.min, IntKind.max, IntKind.signed, IntKind.bits] using wl
  refine ⟨h.toNat * 18446744073709551616 + l.toNat, ?_, ?_, ?_⟩
  · unfold M; omega
  · unfold hi; omega
  · unfold lo; omega
theorem new3 (w : World) (a b c : Nat) :
    Blk (((w.alloc (.cells #[.int .u64 (hi a), .int .u64 (lo a)] 24)).alloc (.cells #[.int .u64 (hi b), .int .u64 (lo b)] 24)).alloc (.cells #[.int .u64 (hi c), .int .u64 (lo c)] 24)) w.heap.size 24 #[.int .u64 (hi a), .int .u64 (lo a)] ∧
    Blk (((w.alloc (.cells #[.int .u64 (hi a), .int .u64 (lo a)] 24)).alloc (.cells #[.int .u64 (hi b), .int .u64 (lo b)] 24)).alloc (.cells #[.int .u64 (hi c), .int .u64 (lo c)] 24)) (w.heap.size + 1) 24 #[.int .u64 (hi b), .int .u64 (lo b)] ∧
    Blk (((w.alloc (.cells #[.int .u64 (hi a), .int .u64 (lo a)] 24)).alloc (.cells #[.int .u64 (hi b), .int .u64 (lo b)] 24)).alloc (.cells #[.int .u64 (hi c), .int .u64 (lo c)] 24)) (w.heap.size + 1 + 1) 24 #[.int .u64 (hi c), .int .u64 (lo c)] := by
  obtain ⟨h1, h2⟩ := two_new w a b
  refine ⟨h1.alloc _, h2.alloc _, ?_⟩
  have := Blk.new ((w.alloc (.cells #[.int .u64 (hi a), .int .u64 (lo a)] 24)).alloc (.cells #[.int .u64 (hi b), .int .u64 (lo b)] 24)) 24 #[.int .u64 (hi c), .int .u64 (lo c)]
  simpa using this
theorem threes_new (w : World) (o : Obj) (a b c : Nat) : Blk ((w.alloc o).alloc (.cells #[.int .u64 (hi a), .int .u64 (lo a), .int .u64 (hi b), .int .u64 (lo b), .int .u64 (hi c), .int .u64 (lo c)] 24)) (w.heap.size + 1) 24 (threes a b c) := by
  have := Blk.new (w.alloc o) 24 (threes a b c)
  simpa [threes] using this
end Go.Proofs.YtjjlfkbgieloeaaDoor
