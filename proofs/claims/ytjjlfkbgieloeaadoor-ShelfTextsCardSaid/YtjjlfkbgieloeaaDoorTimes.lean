/- The contract of wide.times: ten times a number, and a digit. Conditions: a number of 128 bits. -/
import Derived.Test.YtjjlfkbgieloeaaDoorBoth
import Derived.Laws.Bits64b
namespace Go.Proofs.YtjjlfkbgieloeaaDoor
open Go.RowKit
theorem ret_two {a b x y : Int} (h : a = x) (k : b = y) : Ending.returned (.tuple #[.int .u64 a, .int .u64 b]) = .returned (.tuple #[.int .u64 x, .int .u64 y]) := by rw [h, k]
theorem and32 (n : Nat) (h : n < 18446744073709551616) : bits .and .u64 (n : Int) 4294967295 = ((n % 4294967296 : Nat) : Int) := by
  have := bits_and_u64_nat n 4294967295 h (by omega)
  rw [show (4294967295 : Int) = ((4294967295 : Nat) : Int) by rfl, this, show n &&& 4294967295 = n % 4294967296 from Nat.and_two_pow_sub_one_eq_mod n 32]
theorem mul_val (n : Nat) (h : n < 18446744073709551616) :
    IntKind.u64.wrap (IntKind.u64.wrap (IntKind.u64.wrap (IntKind.u64.wrap ((n : Int) / 4294967296 * bits .and .u64 10 4294967295) + IntKind.u64.wrap (bits .and .u64 (n : Int) 4294967295 * bits .and .u64 10 4294967295) / 4294967296) / 4294967296) +
      IntKind.u64.wrap (bits .and .u64 (IntKind.u64.wrap (IntKind.u64.wrap ((n : Int) / 4294967296 * bits .and .u64 10 4294967295) + IntKind.u64.wrap (bits .and .u64 (n : Int) 4294967295 * bits .and .u64 10 4294967295) / 4294967296)) 4294967295) / 4294967296) = ((n * 10 / 18446744073709551616 : Nat) : Int) := by
  have e10 : bits .and .u64 10 4294967295 = (10 : Int) := by decide
  rw [e10, and32 n h]
  have e1 : IntKind.u64.wrap ((n : Int) / 4294967296 * 10) = ((n / 4294967296 * 10 : Nat) : Int) := by rw [IntKind.wrap_u64]; omega
  have e2 : IntKind.u64.wrap (((n % 4294967296 : Nat) : Int) * 10) / 4294967296 = ((n % 4294967296 * 10 / 4294967296 : Nat) : Int) := by rw [IntKind.wrap_u64]; omega
  rw [e1, e2]
  have e3 : IntKind.u64.wrap (((n / 4294967296 * 10 : Nat) : Int) + ((n % 4294967296 * 10 / 4294967296 : Nat) : Int)) = ((n / 4294967296 * 10 + n % 4294967296 * 10 / 4294967296 : Nat) : Int) := by rw [IntKind.wrap_u64]; omega
  rw [e3, and32 _ (by omega)]
  obtain ⟨m, hm⟩ : ∃ m : Nat, n / 4294967296 * 10 + n % 4294967296 * 10 / 4294967296 = m := ⟨_, rfl⟩
  rw [hm]
  have hp : m % 4294967296 < 4294967296 := Nat.mod_lt _ (by omega)
  have hb : m / 4294967296 < 18446744073709551616 := by omega
  have hv : m / 4294967296 = n * 10 / 18446744073709551616 := by omega
  have e4 : IntKind.u64.wrap ((m : Int) / 4294967296) = ((m / 4294967296 : Nat) : Int) := by rw [IntKind.wrap_u64]; omega
  rw [hv] at hb e4
  rw [e4]
  clear e1 e2 e3 e4 hm hv
  generalize m % 4294967296 = p at *
  generalize n * 10 / 18446744073709551616 = q at *
  have e5 : IntKind.u64.wrap (p : Int) / 4294967296 = 0 := by
    rw [IntKind.wrap_u64, Int.emod_eq_of_lt (by omega) (by omega)]; omega
  rw [e5, Int.add_zero, IntKind.wrap_u64, Int.emod_eq_of_lt (by omega) (by omega)]
set_option maxRecDepth 100000 in
theorem mul_raw (n : Nat) (x : Int) (w : World) (hx : Hid (x = n ∧ n < 18446744073709551616)) :
    Calls Tryd.prog 61 #[.int .u64 x, .int .u64 10] w fun e w' => e = .returned (.tuple #[.int .u64 (n * 10 / 18446744073709551616 : Nat), .int .u64 (n * 10 % 18446744073709551616 : Nat)]) ∧ Below w.heap.size w w' := by
  go_enter Tryd.func61, Tryd.ntmps61
  go_wp2
  refine bodyPost_ret (v := .tuple #[.int .u64 (IntKind.u64.wrap (IntKind.u64.wrap (IntKind.u64.wrap (IntKind.u64.wrap (x / 4294967296 * bits .and .u64 10 4294967295) + IntKind.u64.wrap (bits .and .u64 x 4294967295 * bits .and .u64 10 4294967295) / 4294967296) / 4294967296) + IntKind.u64.wrap (bits .and .u64 (IntKind.u64.wrap (IntKind.u64.wrap (x / 4294967296 * bits .and .u64 10 4294967295) + IntKind.u64.wrap (bits .and .u64 x 4294967295 * bits .and .u64 10 4294967295) / 4294967296)) 4294967295) / 4294967296)), .int .u64 (IntKind.u64.wrap (x * 10))]) (by simp [results, Tryd.results61, go_sem]) rfl ⟨ret_two ?_ ?_, Below.refl _ _⟩
  · obtain ⟨rfl, h⟩ := hx.out
    exact mul_val n h
  · obtain ⟨rfl, h⟩ := hx.out
    rw [IntKind.wrap_u64]
    omega
end Go.Proofs.YtjjlfkbgieloeaaDoor
