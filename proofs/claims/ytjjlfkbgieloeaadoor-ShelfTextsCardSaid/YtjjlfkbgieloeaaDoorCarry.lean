/- What math/bits' Add64 and Sub64 answer (the model's entries). Conditions: a carry of 0 or 1. -/
import Derived.Test.YtjjlfkbgieloeaaDoorProg
import Derived.WalkKit
import Derived.KernelRfl
import Derived.Laws.Externs
namespace Go.Proofs.YtjjlfkbgieloeaaDoor
open Go.RowKit
def addE : Array Value → Sem Value := fun args => do
    let (x, y, c) ← Extern.MathBitsCarry.three "Add64" args
    pure (Extern.MathBitsCarry.pair ((x + y + c) % Extern.MathBitsCarry.m64) ((x + y + c) / Extern.MathBitsCarry.m64))
def subE : Array Value → Sem Value := fun args => do
    let (x, y, b) ← Extern.MathBitsCarry.three "Sub64" args
    pure (Extern.MathBitsCarry.pair ((x + Extern.MathBitsCarry.m64 - y - b) % Extern.MathBitsCarry.m64) (if x < y + b then 1 else 0))
def lowS (a b c : Nat) : Nat := (a + b + c) % 18446744073709551616
def carS (a b c : Nat) : Nat := (a + b + c) / 18446744073709551616
def lowD (a b c : Nat) : Nat := (a + 18446744073709551616 - b - c) % 18446744073709551616
def carD (a b c : Nat) : Nat := if a < b + c then 1 else 0
theorem m64_eq : Extern.MathBitsCarry.m64 = 18446744073709551616 := by decide
theorem addE_run (a b c : Nat) (hc : c ≤ 1) (P : Program) (w : World) : (addE #[.int .u64 a, .int .u64 b, .int .u64 c]).run P w = .ok (.tuple #[.int .u64 ((a + b + c) % Extern.MathBitsCarry.m64 : Nat), .int .u64 ((a + b + c) / Extern.MathBitsCarry.m64 : Nat)]) w := by
  rcases (by omega : c = 0 ∨ c = 1) with rfl | rfl <;> rfl
theorem subE_run (a b c : Nat) (hc : c ≤ 1) (P : Program) (w : World) : (subE #[.int .u64 a, .int .u64 b, .int .u64 c]).run P w = .ok (.tuple #[.int .u64 ((a + Extern.MathBitsCarry.m64 - b - c) % Extern.MathBitsCarry.m64 : Nat), .int .u64 ((if a < b + c then 1 else 0 : Nat) : Int)]) w := by
  rcases (by omega : c = 0 ∨ c = 1) with rfl | rfl <;> rfl
theorem add64_run (a b c : Nat) (hc : c ≤ 1) (w : World) : (callFunc 42 #[.int .u64 a, .int .u64 b, .int .u64 c]).run Tryd.prog w = .ok (.value (.tuple #[.int .u64 (lowS a b c), .int .u64 (carS a b c)])) w := by
  rw [run_callFunc_extern (e := addE) Tryd.func42 (by kernel_rfl) (by kernel_rfl) (by kernel_rfl) (by kernel_rfl), addE_run a b c hc, m64_eq]
  rfl
theorem sub64_run (a b c : Nat) (hc : c ≤ 1) (w : World) : (callFunc 44 #[.int .u64 a, .int .u64 b, .int .u64 c]).run Tryd.prog w = .ok (.value (.tuple #[.int .u64 (lowD a b c), .int .u64 (carD a b c)])) w := by
  rw [run_callFunc_extern (e := subE) Tryd.func44 (by kernel_rfl) (by kernel_rfl) (by kernel_rfl) (by kernel_rfl), subE_run a b c hc, m64_eq]
  rfl
end Go.Proofs.YtjjlfkbgieloeaaDoor
