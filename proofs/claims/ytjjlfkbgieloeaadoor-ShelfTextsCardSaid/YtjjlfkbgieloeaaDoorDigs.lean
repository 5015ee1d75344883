/- The plain law of doubling decimal digits. Conditions: none. -/
import Derived.Test.YtjjlfkbgieloeaaDoorShow
namespace Go.Proofs.YtjjlfkbgieloeaaDoor
/-- decimal digits as numbers, the lowest first -/
def digr (v : Nat) : List Nat := if v < 10 then [v] else (v % 10) :: digr (v / 10)
termination_by v
decreasing_by omega
theorem digr_low (v : Nat) (h : v < 10) : digr v = [v] := by rw [digr, if_pos h]
theorem digr_high (v : Nat) (h : ¬ v < 10) : digr v = (v % 10) :: digr (v / 10) := by rw [digr, if_neg h]
theorem digr_lt (v : Nat) : ∀ d ∈ digr v, d < 10 := by
  induction v using Nat.strongRecOn with
  | ind v ih =>
    by_cases h : v < 10
    · rw [digr_low v h]; intro d hd; simp at hd; omega
    · rw [digr_high v h]
      intro d hd
      rcases List.mem_cons.1 hd with rfl | hd
      · omega
      · exact ih (v / 10) (by omega) d hd
theorem digr_decs (v : Nat) : decs v = (digr v).reverse.map fun d => UInt8.ofNat (48 + d) := by
  induction v using Nat.strongRecOn with
  | ind v ih =>
    by_cases h : v < 10
    · rw [digr_low v h, decs, if_pos h]; rfl
    · rw [digr_high v h, decs, if_neg h, ih (v / 10) (by omega)]; simp
theorem digr_len (v : Nat) : ∀ n, v < 10 ^ (n + 1) → (digr v).length ≤ n + 1 := by
  induction v using Nat.strongRecOn with
  | ind v ih =>
    intro n hn
    by_cases h : v < 10
    · rw [digr_low v h]; simp
    · rw [digr_high v h]
      cases n with
      | zero => omega
      | succ n =>
        have := ih (v / 10) (by omega) n (by rw [Nat.pow_succ] at hn; omega)
        simp; omega
/-- all digits doubled, the lowest first, with what is carried -/
def dbl : List Nat → Nat → List Nat × Nat
  | [], c => ([], c)
  | d :: r, c => (((2 * d + c) % 10) :: (dbl r ((2 * d + c) / 10)).1, (dbl r ((2 * d + c) / 10)).2)
def withc (l : List Nat) (c : Nat) : List Nat := if 0 < c then l ++ [c] else l
theorem withc_cons (d : Nat) (l : List Nat) (c : Nat) : withc (d :: l) c = d :: withc l c := by unfold withc; split <;> rfl
theorem dbl_cons (d : Nat) (r : List Nat) (c : Nat) : dbl (d :: r) c = (((2 * d + c) % 10) :: (dbl r ((2 * d + c) / 10)).1, (dbl r ((2 * d + c) / 10)).2) := rfl
theorem dbl_digr (v : Nat) : ∀ b, b < 2 → withc (dbl (digr v) b).1 (dbl (digr v) b).2 = digr (2 * v + b) ∧ (dbl (digr v) b).2 < 2 := by
  induction v using Nat.strongRecOn with
  | ind v ih =>
    intro b hb
    by_cases h : v < 10
    · rw [digr_low v h, dbl_cons]
      show withc [(2 * v + b) % 10] ((2 * v + b) / 10) = _ ∧ (2 * v + b) / 10 < 2
      by_cases h2 : 2 * v + b < 10
      · rw [show (2 * v + b) / 10 = 0 by omega, digr_low _ h2, Nat.mod_eq_of_lt h2]
        exact ⟨rfl, by omega⟩
      · rw [digr_high _ h2, show (2 * v + b) / 10 = 1 by omega, digr_low 1 (by omega)]
        exact ⟨rfl, by omega⟩
    · rw [digr_high v h, digr_high (2 * v + b) (by omega), dbl_cons]
      have hc : (2 * (v % 10) + b) / 10 < 2 := by omega
      obtain ⟨h1, h2⟩ := ih (v / 10) (by omega) ((2 * (v % 10) + b) / 10) hc
      have e1 : (2 * v + b) % 10 = (2 * (v % 10) + b) % 10 := by omega
      have e2 : (2 * v + b) / 10 = 2 * (v / 10) + (2 * (v % 10) + b) / 10 := by omega
      rw [e1, e2, ← h1]
      exact ⟨withc_cons _ _ _, h2⟩
theorem dbl_len : ∀ (l : List Nat) (c : Nat), (dbl l c).1.length = l.length
  | [], _ => rfl
  | d :: r, c => by simp [dbl, dbl_len r]
end Go.Proofs.YtjjlfkbgieloeaaDoor
