/- The contracts of castag.Bytes and of the references Sum and Bytes. Conditions: a text of at most 4096 bytes for Sum. -/
import Derived.Test.YtefkodglfhonpaaDoorCWords
import Derived.Lib.ConvBytes
import Derived.Laws.BytesArg
namespace Go.Proofs.YtefkodglfhonpaaDoor
open Go.RowKit
def bytesS (c : BitVec 32) : ByteArray := ⟨(Crc.bytes c).toArray⟩
theorem conv4 (w : World) (x0 x1 x2 x3 : Int) : (convert 46 9 (.slice (some ⟨w.heap.size, 0, none⟩) 4 4)).run Tryd.prog (w.alloc (.cells #[.int .u8 x0, .int .u8 x1, .int .u8 x2, .int .u8 x3] 5)) = .ok (.string (strOfNums [x0, x1, x2, x3])) (w.alloc (.cells #[.int .u8 x0, .int .u8 x1, .int .u8 x2, .int .u8 x3] 5)) :=
  run_convert_bytes_arg _ 46 5 Tryd.underlying46 Tryd.underlying5 w.heap.size 0 4 4 [x0, x1, x2, x3] rfl (fun i hi => by
    rw [Nat.zero_add, World.cell?_alloc_at _ _ _ _ rfl]
    match i, hi with
    | 0, _ => rfl
    | 1, _ => rfl
    | 2, _ => rfl
    | 3, _ => rfl) 9 Tryd.underlying9
theorem ret_str {a b : ByteArray} (h : a = b) : Ending.returned (.string a) = .returned (.string b) := by rw [h]
theorem ofNat_I (c : BitVec 32) (n : Int) (k : Nat) (h : n = ((c >>> k).toNat % 256 : Nat)) : UInt8.ofNat n.toNat = ⟨(c >>> k).setWidth 8⟩ := by
  subst h
  generalize c >>> k = d
  apply UInt8.toNat_inj.1
  simp
  omega
theorem bytes_I (c : BitVec 32) : strOfNums [I c % 256, I c / 256 % 256, I c / 65536 % 256, I c / 16777216 % 256] = bytesS c := by
  unfold strOfNums bytesS Crc.bytes
  have h0 := ofNat_I c (I c % 256) 0 (by unfold I; simp)
  have h1 := ofNat_I c (I c / 256 % 256) 8 (by unfold I; rw [BitVec.toNat_ushiftRight, Nat.shiftRight_eq_div_pow]; omega)
  have h2 := ofNat_I c (I c / 65536 % 256) 16 (by unfold I; rw [BitVec.toNat_ushiftRight, Nat.shiftRight_eq_div_pow]; omega)
  have h3 := ofNat_I c (I c / 16777216 % 256) 24 (by unfold I; rw [BitVec.toNat_ushiftRight, Nat.shiftRight_eq_div_pow]; omega)
  simp only [BitVec.ushiftRight_zero] at h0
  simp only [List.map, h0, h1, h2, h3]
theorem castag_Bytes (c : BitVec 32) (w : World) :
    Calls Tryd.prog 24 #[.int .u32 (I c)] w fun e w' => e = .returned (.string (bytesS c)) ∧ Below w.heap.size w w' := by
  have hv := conv4 w (I c % 256) (I c / 256 % 256) (I c / 65536 % 256) (I c / 16777216 % 256)
  go_enter Tryd.func24, Tryd.ntmps24
  go_wp2
  go_ret
  exact ⟨ret_str (bytes_I c), (Below.refl _ _).alloc (Nat.le_refl _) _⟩
theorem ref_Bytes (c : BitVec 32) (w : World) :
    Calls Tryd.prog 19 #[.int .u32 (I c)] w fun e w' => e = .returned (.string (bytesS c)) ∧ Below w.heap.size w w' := by
  have hv := conv4 w
  have hb := I_bd c
  go_enter Tryd.func19, Tryd.ntmps19
  go_wp2
  go_ret
  exact ⟨ret_str (by rw [← bytes_I c, show I c / 16777216 % 256 = I c / 16777216 by omega]), (Below.refl _ _).alloc (Nat.le_refl _) _⟩
theorem tdiv_I (x : BitVec 32) : (I x).tdiv 2 % 4294967296 = I (x >>> (1 : Nat)) := by
  have := I_bd x
  rw [← shr_I, Int.tdiv_eq_ediv_of_nonneg (by omega)]
  omega
theorem bit_I (x : BitVec 32) (k : Nat) : ((x.toNat : Int) / 2 ^ k).tmod 2 = if x.getLsbD k then 1 else 0 := by
  have e : ((x.toNat : Int) / 2 ^ k).tmod 2 = ((x.toNat / 2 ^ k % 2 : Nat) : Int) := by
    rw [Int.tmod_eq_emod_of_nonneg (Int.ediv_nonneg (by omega) (Int.pow_nonneg (by omega)))]
    simp
  rw [e, BitVec.getLsbD, Nat.testBit_eq_decide_div_mod_eq]
  by_cases h : x.toNat / 2 ^ k % 2 = 1
  · simp [h]
  · have : x.toNat / 2 ^ k % 2 = 0 := by omega
    simp [this]
theorem test_I (x : BitVec 32) (b : UInt8) (k : Nat) : ((I x).tmod 2 != ((b.toNat : Int) % 4294967296 / 2 ^ k).tmod 2) = (x.getLsbD 0 != (b.toBitVec.setWidth 32).getLsbD k) := by
  rw [byte_I]
  unfold I
  rw [bit_I]
  have := bit_I x 0
  rw [Int.pow_zero, Int.ediv_one] at this
  rw [this]
  cases x.getLsbD 0 <;> cases (b.toBitVec.setWidth 32).getLsbD k <;> decide
theorem ref_true (x : BitVec 32) (b : UInt8) (k : Nat) (h : ((I x).tmod 2 != ((b.toNat : Int) % 4294967296 / 2 ^ k).tmod 2) = true) :
    bits .xor .u32 ((I x).tdiv 2 % 4294967296) 2197175160 = I (Crc.refstep x ((b.toBitVec.setWidth 32).getLsbD k)) := by
  rw [test_I] at h
  have e2 : (2197175160 : Int) = I Crc.poly := by decide
  rw [e2, tdiv_I, xor_I, Crc.refstep, if_pos h]
theorem ref_false (x : BitVec 32) (b : UInt8) (k : Nat) (h : ((I x).tmod 2 != ((b.toNat : Int) % 4294967296 / 2 ^ k).tmod 2) = false) :
    (I x).tdiv 2 % 4294967296 = I (Crc.refstep x ((b.toBitVec.setWidth 32).getLsbD k)) := by
  rw [test_I] at h
  rw [tdiv_I, Crc.refstep, h]
  rfl
theorem refbits_snoc (b : BitVec 32) (n : Nat) : ∀ (k : Nat) (c : BitVec 32), Crc.refbits (n + 1) k b c = Crc.refstep (Crc.refbits n k b c) (b.getLsbD (k + n)) := by
  induction n with
  | zero => intro k c; rfl
  | succ n ih =>
    intro k c
    rw [Crc.refbits, ih (k + 1), Crc.refbits, show k + 1 + n = k + (n + 1) by omega]
theorem refbits_snoc0 (b : BitVec 32) (n : Nat) (c : BitVec 32) : Crc.refbits (n + 1) 0 b c = Crc.refstep (Crc.refbits n 0 b c) (b.getLsbD n) := by
  rw [refbits_snoc, Nat.zero_add]
theorem sub_I (a : BitVec 32) : (4294967295 - I a) % 4294967296 = I (~~~a) := by
  have := I_bd a
  have e : I (~~~a) = 4294967295 - I a := by
    unfold I
    rw [BitVec.toNat_not]
    have := a.isLt
    omega
  omega
set_option maxHeartbeats 400000 in
theorem ref_Sum (a : BitVec 32) (s : ByteArray) (hs : s.size ≤ 4096) (w : World) :
    Calls Tryd.prog 20 #[.int .u32 (I a), .string s] w fun e w' => e = .returned (.int .u32 (I (Crc.sum a s.data.toList))) ∧ w = w' := by
  go_enter Tryd.func20, Tryd.ntmps20
  go_wp2
  go_loop [5, 6, 7] (fun c i n => ∃ k : Nat, k ≤ s.size ∧ i = .int .i64 k ∧ c = .int .u32 (I (Crc.reg (~~~a) (s.data.toList.take k)))) (fun _ i _ => s.size - (intOf i).toNat)
  case atStart => exact ⟨0, Nat.zero_le _, rfl, int_u32 (sub_I a)⟩
  case round =>
    obtain ⟨k, hk, rfl, rfl⟩ := hrel
    by_cases hlt : k < s.size
    · go_wp2
      go_loop [5, 7] (fun c i => ∃ k2 : Nat, k2 ≤ 8 ∧ i = .int .i64 k2 ∧ c = .int .u32 (I (Crc.refbits k2 0 (s[k].toBitVec.setWidth 32) (Crc.reg (~~~a) (s.data.toList.take k))))) (fun _ i => 8 - (intOf i).toNat)
      case atStart => exact ⟨0, Nat.zero_le _, rfl, rfl⟩
      case round =>
        obtain ⟨k2, hk2, rfl, rfl⟩ := hrel
        by_cases hlt : k2 < 8
        · go_wp2
          · go_round
            case rel => exact ⟨k2 + 1, by omega, by go_num, int_u32 (by rw [refbits_snoc0]; exact ref_true _ _ _ (by assumption))⟩
            case measure => simp [intOf]; omega
          · go_round
            case rel => exact ⟨k2 + 1, by omega, by go_num, int_u32 (by rw [refbits_snoc0]; exact ref_false _ _ _ (by assumption))⟩
            case measure => simp [intOf]; omega
        · obtain rfl : k2 = 8 := by omega
          go_wp2
          go_round
          case rel => exact ⟨k + 1, by omega, by go_num, int_u32 (by rw [take_snoc s k (by assumption), reg_snoc, Crc.byte_ref])⟩
          case measure => simp [intOf]; omega
    · obtain rfl : k = s.size := by omega
      go_wp2
      go_ret
      exact ⟨ret_u32 (by rw [sub_I, List.take_of_length_le (by simp)]; rfl), rfl⟩
end Go.Proofs.YtefkodglfhonpaaDoor
