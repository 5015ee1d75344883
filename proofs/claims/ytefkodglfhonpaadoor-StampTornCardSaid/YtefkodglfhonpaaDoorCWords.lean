/- The contract of castag.Sum: it returns the register's sum. Conditions: a text of at most 4096 bytes. -/
import Derived.Test.YtefkodglfhonpaaDoorProg
import Derived.Test.YtefkodglfhonpaaDoorCrc
import Derived.WalkKit
import Derived.Laws.BitsAllLaws
import Derived.BigQuiet
import Derived.Deep.QuietTactic
import Derived.KernelRfl
import Derived.WalkSpells
import Derived.WalkLawsBesides
namespace Go.Proofs.YtefkodglfhonpaaDoor
open Go.RowKit
/-- a 32-bit word as the walk's number -/
def I (c : BitVec 32) : Int := c.toNat
theorem I_bd (c : BitVec 32) : 0 ≤ I c ∧ I c ≤ 4294967295 := by unfold I; have := c.isLt; omega
theorem xor_I (a b : BitVec 32) : bits .xor .u32 (I a) (I b) = I (a ^^^ b) := by
  unfold I
  rw [u32_xor_nat _ _ a.isLt b.isLt, BitVec.toNat_xor]
theorem and_I (a b : BitVec 32) : bits .and .u32 (I a) (I b) = I (a &&& b) := by
  unfold I
  rw [u32_and_nat _ _ a.isLt b.isLt, BitVec.toNat_and]
theorem byte_I (b : UInt8) : (b.toNat : Int) % 4294967296 = I (b.toBitVec.setWidth 32) := by
  unfold I
  have := b.toNat_lt
  simp
  omega
theorem not_I (a : BitVec 32) : bits .xor .u32 IntKind.u32.max (I a) = I (~~~ a) := by
  have e : IntKind.u32.max = I (BitVec.allOnes 32) := by decide
  rw [e, xor_I, BitVec.allOnes_xor]
theorem shr_I (c : BitVec 32) : I c / (2 : Int) = I (c >>> (1 : Nat)) := by
  unfold I
  rw [BitVec.toNat_ushiftRight, Nat.shiftRight_eq_div_pow]
  omega
theorem mask_I (c : BitVec 32) : bits .and .u32 2197175160 (-bits .and .u32 (I c) 1 % 4294967296) = I (if c.getLsbD 0 then Crc.poly else 0#32) := by
  have e1 : (1 : Int) = I 1#32 := by decide
  have e2 : (2197175160 : Int) = I Crc.poly := by decide
  rw [e2]
  conv => lhs; rw [e1]
  rw [and_I]
  have e3 : c &&& 1#32 = if c.getLsbD 0 then 1#32 else 0#32 := by
    apply BitVec.eq_of_getLsbD_eq
    intro i hi
    cases i with
    | zero => cases h : c.getLsbD 0 <;> simp only [BitVec.getLsbD_and, h] <;> rfl
    | succ i => cases h : c.getLsbD 0 <;> simp [BitVec.getLsbD_and, BitVec.getLsbD_one]
  rw [e3]
  cases c.getLsbD 0
  · have e4 : -I (if false = true then 1#32 else 0#32) % 4294967296 = I 0#32 := by decide
    rw [e4, and_I]
    simp
  · have e4 : -I (if true = true then 1#32 else 0#32) % 4294967296 = I (BitVec.allOnes 32) := by decide
    rw [e4, and_I, BitVec.and_allOnes]
    rfl
theorem step_I (c : BitVec 32) : bits .xor .u32 (I c / 2) (bits .and .u32 2197175160 (-bits .and .u32 (I c) 1 % 4294967296)) = I (Crc.L c) := by
  rw [mask_I, shr_I, xor_I]
  rfl
theorem reg_snoc (c : BitVec 32) (l : List UInt8) (b : UInt8) : Crc.reg c (l ++ [b]) = Crc.byte (Crc.reg c l) b := by
  simp [Crc.reg, List.foldl_append]
theorem take_snoc (s : ByteArray) (k : Nat) (h : k < s.size) : s.data.toList.take (k + 1) = s.data.toList.take k ++ [s[k]] := by
  rw [List.take_succ_eq_append_getElem (by simpa using h)]; rfl
theorem int_u32 {a b : Int} (h : a = b) : Value.int .u32 a = Value.int .u32 b := by rw [h]
theorem ret_u32 {a b : Int} (h : a = b) : Ending.returned (.int .u32 a) = .returned (.int .u32 b) := by rw [h]
theorem first_I (x : BitVec 32) (b : UInt8) : bits .xor .u32 (I x) ((b.toNat : Int) % 4294967296) = I (x ^^^ b.toBitVec.setWidth 32) := by rw [byte_I, xor_I]
set_option maxHeartbeats 400000 in
theorem castag_Sum (a : BitVec 32) (s : ByteArray) (hs : s.size ≤ 4096) (w : World) :
    Calls Tryd.prog 25 #[.int .u32 (I a), .string s] w fun e w' => e = .returned (.int .u32 (I (Crc.sum a s.data.toList))) ∧ w = w' := by
  go_enter Tryd.func25, Tryd.ntmps25
  go_wp2
  go_loop [5, 6, 11] (fun c i n => ∃ k : Nat, k ≤ s.size ∧ n = .int .i64 k ∧ c = .int .u32 (I (Crc.reg (~~~a) (s.data.toList.take k)))) (fun _ _ i => s.size - (intOf i).toNat)
  case atStart => exact ⟨0, Nat.zero_le _, rfl, int_u32 (not_I a)⟩
  case round =>
    obtain ⟨k, hk, rfl, rfl⟩ := hrel
    by_cases hlt : k < s.size
    · go_wp2
      go_loop [5, 20] (fun c i => ∃ k2 : Nat, k2 ≤ 8 ∧ i = .int .i64 k2 ∧ c = .int .u32 (I (Crc.Ln k2 (Crc.reg (~~~a) (s.data.toList.take k) ^^^ s[k].toBitVec.setWidth 32)))) (fun _ i => 8 - (intOf i).toNat)
      case atStart => exact ⟨0, Nat.zero_le _, rfl, int_u32 (first_I _ _)⟩
      case round =>
        obtain ⟨k2, hk2, rfl, rfl⟩ := hrel
        by_cases hlt : k2 < 8
        · go_wp2
          go_round
          case rel => exact ⟨k2 + 1, by omega, by go_num, int_u32 (by rw [step_I, Crc.Ln_add k2 1]; rfl)⟩
          case measure => simp [intOf]; omega
        · obtain rfl : k2 = 8 := by omega
          go_wp2
          go_round
          case rel => exact ⟨k + 1, by omega, by go_num, int_u32 (by rw [take_snoc s k (by assumption), reg_snoc]; rfl)⟩
          case measure => simp [intOf]; omega
    · obtain rfl : k = s.size := by omega
      go_wp2
      go_ret
      exact ⟨ret_u32 (by rw [not_I, List.take_of_length_le (by simp)]; rfl), rfl⟩
end Go.Proofs.YtefkodglfhonpaaDoor
