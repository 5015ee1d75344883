/- The contracts of castag.FromBytes, castag.Holds and alive. Conditions: a text of at most 4096 bytes for Holds. -/
import Derived.Test.YtefkodglfhonpaaFns
import Derived.Deep.RegionHeld3
import Derived.Lib.Strings
import Derived.Lib.IndexBytes
import Derived.Lib.Hide
namespace Go.Proofs.Ytefkodglfhonpaa
open Go.RowKit
structure Drew (w w' : World) : Prop where mk :: (out : ∃ n, w' = w.drewN n)
theorem qs {P : Program} {f : FuncId} {args : Array Value} {w : World} {n : Nat} {v : Value}
    (h : Calls P f args (w.drewN n) fun e w' => e = .returned v ∧ w.drewN n = w') : Calls P f args (w.drewN n) fun e w'' => e = .returned v ∧ ∃ m, w'' = w.drewN m :=
  h.mono fun _ _ ⟨he, hm⟩ => ⟨he, n, hm.symm⟩
theorem qd {P : Program} {f : FuncId} {args : Array Value} {w : World} {n : Nat} {v : Value}
    (h : Calls P f args (w.drewN n) fun e w' => e = .returned v ∧ Drew (w.drewN n) w') : Calls P f args (w.drewN n) fun e w'' => e = .returned v ∧ ∃ m, w'' = w.drewN m :=
  h.mono fun _ _ ⟨he, ⟨m, hm⟩⟩ => ⟨he, n + m, by rw [hm, World.drewN_drewN]⟩
theorem from_few (s : ByteArray) (h : s.size < 4) (w : World) :
    Calls Try.prog 14 #[.string s] w fun e w' => e = .returned (.tuple #[.int .u32 0, .bool false]) ∧ Drew w w' := by
  have h1 : decide (s.size < 4) = true := decide_eq_true h
  have h2 : decide ((s.size : Int) < 4) = true := decide_eq_true (by omega)
  go_enter Try.func14, Try.ntmps14
  go_wp2
  go_ret2
  exact ⟨rfl, ⟨0, rfl⟩⟩
theorem or_I (a b : BitVec 32) : bits .or .u32 (I a) (I b) = I (a ||| b) := by
  unfold I
  rw [u32_or_nat _ _ a.isLt b.isLt, BitVec.toNat_or]
theorem shl_I (b : UInt8) (k : Nat) (m : Int) (hm : m = 2 ^ k) : (b.toNat : Int) % 4294967296 * m % 4294967296 = I (b.toBitVec.setWidth 32 <<< k) := by
  subst hm
  have := b.toNat_lt
  unfold I
  rw [BitVec.toNat_shiftLeft, Nat.shiftLeft_eq]
  simp
  rw [Int.emod_eq_of_lt (a := (b.toNat : Int)) (by omega) (by omega)]
theorem word_or (a b c d : UInt8) : a.toBitVec.setWidth 32 ||| b.toBitVec.setWidth 32 <<< 8 ||| c.toBitVec.setWidth 32 <<< 16 ||| d.toBitVec.setWidth 32 <<< 24 = Crc.word a b c d := by
  unfold Crc.word
  apply BitVec.eq_of_getLsbD_eq
  intro i hi
  simp only [BitVec.getLsbD_or, BitVec.getLsbD_xor, BitVec.getLsbD_shiftLeft, BitVec.getLsbD_setWidth]
  by_cases h1 : i < 8
  · simp [h1, show i < 16 by omega, show i < 24 by omega]
  · by_cases h2 : i < 16
    · simp [h1, h2, show i < 24 by omega, BitVec.getLsbD_of_ge a.toBitVec i (by omega)]
    · by_cases h3 : i < 24
      · simp [h1, h2, h3, BitVec.getLsbD_of_ge a.toBitVec i (by omega), BitVec.getLsbD_of_ge b.toBitVec (i - 8) (by omega)]
      · simp [h1, h2, h3, BitVec.getLsbD_of_ge a.toBitVec i (by omega), BitVec.getLsbD_of_ge b.toBitVec (i - 8) (by omega), BitVec.getLsbD_of_ge c.toBitVec (i - 16) (by omega)]
theorem or4_I (a b c d : UInt8) : bits .or .u32 (bits .or .u32 (bits .or .u32 ((a.toNat : Int) % 4294967296) ((b.toNat : Int) % 4294967296 * 256 % 4294967296)) ((c.toNat : Int) % 4294967296 * 65536 % 4294967296)) ((d.toNat : Int) % 4294967296 * 16777216 % 4294967296) = I (Crc.word a b c d) := by
  rw [byte_I a, shl_I b 8 256 (by decide), shl_I c 16 65536 (by decide), shl_I d 24 16777216 (by decide), or_I, or_I, or_I, word_or]
theorem ret2_u32 {a b : Int} {t : Bool} (h : a = b) : Ending.returned (.tuple #[.int .u32 a, .bool t]) = .returned (.tuple #[.int .u32 b, .bool t]) := by rw [h]
theorem from_yes (s : ByteArray) (h : 4 ≤ s.size) (w : World) :
    Calls Try.prog 14 #[.string s] w fun e w' => e = .returned (.tuple #[.int .u32 (I (Crc.word s[0] s[1] s[2] s[3])), .bool true]) ∧ Drew w w' := by
  have h1 : decide (s.size < 4) = false := decide_eq_false (by omega)
  have h2 : decide ((s.size : Int) < 4) = false := decide_eq_false (by omega)
  have q0 : (0 < (s.size : Int)) = True := eq_true (by omega)
  have q1 : (1 < (s.size : Int)) = True := eq_true (by omega)
  have q2 : (2 < (s.size : Int)) = True := eq_true (by omega)
  have q3 : (3 < (s.size : Int)) = True := eq_true (by omega)
  have p0 : (0 < s.size) = True := eq_true (by omega)
  have p1 : (1 < s.size) = True := eq_true (by omega)
  have p2 : (2 < s.size) = True := eq_true (by omega)
  have p3 : (3 < s.size) = True := eq_true (by omega)
  go_enter Try.func14, Try.ntmps14
  go_wp2
  go_quiet (fail)
  go_wp2
  go_ret2
  exact ⟨ret2_u32 (or4_I _ _ _ _), ⟨_, rfl⟩⟩
theorem castag_Sum0 (s : ByteArray) (hs : s.size ≤ 4096) (w : World) :
    Calls Try.prog 9 #[.int .u32 0, .string s] w fun e w' => e = .returned (.int .u32 (I (Crc.sum 0#32 s.data.toList))) ∧ w = w' := castag_Sum 0#32 s hs w
theorem ret_bool {a b : Bool} (h : a = b) : Ending.returned (.bool a) = .returned (.bool b) := by rw [h]
theorem drewN_below (w : World) (n : Nat) : Below w.heap.size w (w.drewN n) := ⟨rfl, rfl, rfl, Nat.le_refl _, fun _ _ => rfl⟩
theorem Drew.below {w w' : World} (h : Drew w w') : Below w.heap.size w w' := by
  obtain ⟨n, rfl⟩ := h
  exact drewN_below w n
theorem holds_few (s : ByteArray) (h : s.size < 4) (w : World) :
    Calls Try.prog 12 #[.string s] w fun e w' => e = .returned (.bool false) ∧ Below w.heap.size w w' := by
  have hd : decide ((0 : Int) ≤ (s.size : Int) - 4) = false := decide_eq_false (by omega)
  have hd2 : decide (4 ≤ (s.size : Int)) = false := decide_eq_false (by omega)
  go_enter Try.func12, Try.ntmps12
  go_wp2
  go_quiet (fail)
  go_wp2
  go_ret
  exact ⟨rfl, drewN_below _ _⟩
/-- what Holds answers of a text of four bytes or more -/
def holdsB (s : ByteArray) : Bool := (bytesS (Crc.sum 0#32 (s.data.toList.take (s.size - 4)))).toList == (s.extract (s.size - 4) s.size).toList
set_option maxHeartbeats 1000000 in
theorem holds_many (s : ByteArray) (hs : s.size ≤ 4096) (h : 4 ≤ s.size) (w : World) :
    Calls Try.prog 12 #[.string s] w fun e w' => e = .returned (.bool (holdsB s)) ∧ Below w.heap.size w w' := by
  obtain ⟨n, hn⟩ : ∃ n : Nat, (s.size : Int) - 4 = n := ⟨s.size - 4, by omega⟩
  obtain ⟨m, hm⟩ : ∃ m : Nat, m = s.size - 4 := ⟨_, rfl⟩
  have e : n = s.size - 4 := by omega
  have hd : decide ((0 : Int) ≤ (n : Int)) = true := decide_eq_true (by omega)
  have hb1 : 0 ≤ (n : Int) := by omega
  have hb2 : (n : Int) ≤ s.size := by omega
  have hb3 : n ≤ s.size := by omega
  have hb4 : min n s.size ≤ 4096 := by omega
  have E := Lib.hid e
  clear e hm h
  go_enter Try.func12, Try.ntmps12
  go_wp2
  go_region_held3 (fun _ => True) (exact trivial) (first | (go_at_call 9; refine (castag_Sum0 _ (by simp; omega) _).mono ?_; rintro e w' ⟨rfl, rfl⟩) | (go_at_call 13; refine (castag_Bytes _ _).mono ?_; rintro e w' ⟨rfl, hbel⟩))
  go_wp2
  go_ret
  exact ⟨ret_bool (by rw [holdsB, ← E.out]), ((Below.refl _ _).drew).trans hbel⟩
theorem known : Crc.sum 0#32 [49, 50, 51, 52, 53, 54, 55, 56, 57] = 0xe3069283#32 := by decide +kernel
theorem alive_true (w : World) :
    Calls Try.prog 8 #[] w fun e w' => e = .returned (.bool true) ∧ w = w' := by
  go_enter Try.func8, Try.ntmps8
  go_wp2_with (go_at_call 9; refine (castag_Sum0 _ (by decide) _).mono ?_; rintro e w' ⟨rfl, rfl⟩)
  go_ret
  exact ⟨ret_bool (by rw [known]; decide), rfl⟩
end Go.Proofs.Ytefkodglfhonpaa
