/- The plain law of adding and taking away bit by bit; the contract of the reference's set. Conditions: none. -/
import Derived.Test.YtjjlfkbgieloeaaDoorClass2
import Derived.Test.YtjjlfkbgieloeaaDoorBoth
namespace Go.Proofs.YtjjlfkbgieloeaaDoor
open Go.RowKit
/-- what is summed of the low bits, and what is carried -/
def acc (a b n : Nat) : Nat := (a % 2 ^ n + b % 2 ^ n) % 2 ^ n
def car (a b n : Nat) : Nat := (a % 2 ^ n + b % 2 ^ n) / 2 ^ n
theorem low_succ (a n : Nat) : a % 2 ^ (n + 1) = a % 2 ^ n + 2 ^ n * (a / 2 ^ n % 2) := by
  rw [Nat.pow_succ, Nat.mod_mul]
theorem car_two (a b n : Nat) : car a b n = 0 ∨ car a b n = 1 := by
  have hp : 0 < 2 ^ n := Nat.pow_pos (by omega)
  have h1 := Nat.mod_lt a hp
  have h2 := Nat.mod_lt b hp
  have h : car a b n < 2 := by
    unfold car
    rw [Nat.div_lt_iff_lt_mul hp]
    omega
  omega
theorem acc_lt (a b n : Nat) : acc a b n < 2 ^ n := Nat.mod_lt _ (Nat.pow_pos (by omega))
theorem add_step (a b n : Nat) : (car a b (n + 1) = (a / 2 ^ n % 2 + b / 2 ^ n % 2 + car a b n) / 2) ∧ acc a b (n + 1) = acc a b n + 2 ^ n * ((a / 2 ^ n % 2 + b / 2 ^ n % 2 + car a b n) % 2) := by
  have hp : 0 < 2 ^ n := Nat.pow_pos (by omega)
  have hs : a % 2 ^ (n + 1) + b % 2 ^ (n + 1) = acc a b n + 2 ^ n * (a / 2 ^ n % 2 + b / 2 ^ n % 2 + car a b n) := by
    rw [low_succ, low_succ]
    have h := Nat.mod_add_div (a % 2 ^ n + b % 2 ^ n) (2 ^ n)
    unfold acc car
    rw [Nat.mul_add, Nat.mul_add]
    omega
  have hlt := acc_lt a b n
  generalize ht : a / 2 ^ n % 2 + b / 2 ^ n % 2 + car a b n = t at *
  have htt := Nat.mod_add_div t 2
  have hm := Nat.mod_lt t (show 0 < 2 by omega)
  have e : acc a b n + 2 ^ n * t = (acc a b n + 2 ^ n * (t % 2)) + 2 ^ (n + 1) * (t / 2) := by
    conv => lhs; rw [← htt]
    rw [Nat.pow_succ, Nat.mul_add, Nat.mul_assoc, Nat.add_assoc]
  have hl : acc a b n + 2 ^ n * (t % 2) < 2 ^ (n + 1) := by
    rw [Nat.pow_succ]
    rcases (by omega : t % 2 = 0 ∨ t % 2 = 1) with h | h <;> rw [h] <;> omega
  refine ⟨?_, ?_⟩
  · show (a % 2 ^ (n + 1) + b % 2 ^ (n + 1)) / 2 ^ (n + 1) = t / 2
    rw [hs, e, Nat.add_mul_div_left _ _ (Nat.pow_pos (by omega)), Nat.div_eq_of_lt hl, Nat.zero_add]
  · show (a % 2 ^ (n + 1) + b % 2 ^ (n + 1)) % 2 ^ (n + 1) = _
    rw [hs, e, Nat.add_mul_mod_self_left, Nat.mod_eq_of_lt hl]
/-- taking away: bits of a difference that is kept below the borrow -/
def dif (a b n : Nat) : Nat := (a % 2 ^ n + 2 ^ n - b % 2 ^ n) % 2 ^ n
def bor (a b n : Nat) : Nat := 1 - (a % 2 ^ n + 2 ^ n - b % 2 ^ n) / 2 ^ n
theorem dif_lt (a b n : Nat) : dif a b n < 2 ^ n := Nat.mod_lt _ (Nat.pow_pos (by omega))
theorem bor_two (a b n : Nat) : bor a b n = 0 ∨ bor a b n = 1 := by
  unfold bor
  generalize (a % 2 ^ n + 2 ^ n - b % 2 ^ n) / 2 ^ n = q
  omega
theorem sub_step (a b n : Nat) : (bor a b (n + 1) = if a / 2 ^ n % 2 < b / 2 ^ n % 2 + bor a b n then 1 else 0) ∧ dif a b (n + 1) = dif a b n + 2 ^ n * ((a / 2 ^ n % 2 + 2 - b / 2 ^ n % 2 - bor a b n) % 2) := by
  have hp : 0 < 2 ^ n := Nat.pow_pos (by omega)
  have h1 := Nat.mod_lt a hp
  have h2 := Nat.mod_lt b hp
  have hq : (a % 2 ^ n + 2 ^ n - b % 2 ^ n) / 2 ^ n < 2 := by
    rw [Nat.div_lt_iff_lt_mul hp]
    omega
  have hd : a % 2 ^ n + 2 ^ n - b % 2 ^ n = dif a b n + 2 ^ n * (1 - bor a b n) := by
    have h := Nat.mod_add_div (a % 2 ^ n + 2 ^ n - b % 2 ^ n) (2 ^ n)
    have hb : 1 - bor a b n = (a % 2 ^ n + 2 ^ n - b % 2 ^ n) / 2 ^ n := by
      unfold bor
      generalize (a % 2 ^ n + 2 ^ n - b % 2 ^ n) / 2 ^ n = q at *
      omega
    rw [hb]
    unfold dif
    omega
  have ha2 : a / 2 ^ n % 2 < 2 := Nat.mod_lt _ (by omega)
  have hb2 : b / 2 ^ n % 2 < 2 := Nat.mod_lt _ (by omega)
  have hbor := bor_two a b n
  have hlt := dif_lt a b n
  have hs : a % 2 ^ (n + 1) + 2 ^ (n + 1) - b % 2 ^ (n + 1) = dif a b n + 2 ^ n * (a / 2 ^ n % 2 + 2 - b / 2 ^ n % 2 - bor a b n) := by
    rw [low_succ, low_succ, Nat.pow_succ]
    rcases (by omega : a / 2 ^ n % 2 = 0 ∨ a / 2 ^ n % 2 = 1) with e1 | e1 <;> rcases (by omega : b / 2 ^ n % 2 = 0 ∨ b / 2 ^ n % 2 = 1) with e2 | e2 <;> rcases hbor with e3 | e3 <;> rw [e1, e2, e3] <;> rw [e3] at hd <;> simp only [Nat.mul_zero, Nat.mul_one, Nat.add_zero, Nat.sub_zero, Nat.sub_self, Nat.zero_add, Nat.reduceSub, Nat.reduceAdd] at hd ⊢ <;> omega
  generalize ht : a / 2 ^ n % 2 + 2 - b / 2 ^ n % 2 - bor a b n = t at *
  have htt := Nat.mod_add_div t 2
  have hm := Nat.mod_lt t (show 0 < 2 by omega)
  have e : dif a b n + 2 ^ n * t = (dif a b n + 2 ^ n * (t % 2)) + 2 ^ (n + 1) * (t / 2) := by
    conv => lhs; rw [← htt]
    rw [Nat.pow_succ, Nat.mul_add, Nat.mul_assoc, Nat.add_assoc]
  have hl : dif a b n + 2 ^ n * (t % 2) < 2 ^ (n + 1) := by
    rw [Nat.pow_succ]
    rcases (by omega : t % 2 = 0 ∨ t % 2 = 1) with h | h <;> rw [h] <;> omega
  refine ⟨?_, ?_⟩
  · show 1 - (a % 2 ^ (n + 1) + 2 ^ (n + 1) - b % 2 ^ (n + 1)) / 2 ^ (n + 1) = _
    rw [hs, e, Nat.add_mul_div_left _ _ (Nat.pow_pos (by omega)), Nat.div_eq_of_lt hl, Nat.zero_add]
    split <;> omega
  · show (a % 2 ^ (n + 1) + 2 ^ (n + 1) - b % 2 ^ (n + 1)) % 2 ^ (n + 1) = _
    rw [hs, e, Nat.add_mul_mod_self_left, Nat.mod_eq_of_lt hl]
theorem bit_is (a i : Nat) (v : Int) (w : World) (h2 : i < 128) (h : bitI a i = v) :
    Calls Tryd.prog 41 #[A a, .int .i64 i] w fun e w' => e = .returned (.int .i64 v) ∧ Below w.heap.size w w' :=
  (bit_any a i w h2).mono fun _ _ ⟨he, hw⟩ => ⟨by rw [he, h], hw ▸ below_al (Below.refl _ _) _⟩
end Go.Proofs.YtjjlfkbgieloeaaDoor
