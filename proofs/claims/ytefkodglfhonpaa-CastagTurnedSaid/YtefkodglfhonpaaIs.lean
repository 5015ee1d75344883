/- The walk of the law CastagIs. Conditions: those of its row. -/
import Derived.Test.YtefkodglfhonpaaFn2
namespace Go.Proofs.Ytefkodglfhonpaa
open Go.RowKit
theorem I_of (a : Int) (h : (Lit.int .u32 a).wf = true) : ∃ c : BitVec 32, a = I c := by
  have hb : 0 ≤ a ∧ a ≤ 4294967295 := by simpa [Lit.wf, IntKind.min, IntKind.max, IntKind.signed, IntKind.bits] using h
  refine ⟨BitVec.ofNat 32 a.toNat, ?_⟩
  unfold I
  rw [BitVec.toNat_ofNat, Nat.mod_eq_of_lt (by omega)]
  omega
theorem below_on {w w1 w2 : World} (h : Below w.heap.size w w1) (k : Below w1.heap.size w1 w2) : Below w.heap.size w w2 := h.trans (k.mono h.size)
theorem below_drewN {w w1 : World} {n : Nat} (h : Below w.heap.size w w1) : Below w.heap.size w (w1.drewN n) := below_on h (drewN_below w1 n)
theorem bytesS_size (c : BitVec 32) : (bytesS c).size = 4 := rfl
theorem from_cat (c : BitVec 32) (s : ByteArray) (w : World) :
    Calls Try.prog 14 #[.string (bytesS c ++ s)] w fun e w' => e = .returned (.tuple #[.int .u32 (I c), .bool true]) ∧ Drew w w' := by
  have hs : 4 ≤ (bytesS c ++ s).size := by rw [ByteArray.size_append, bytesS_size]; omega
  refine (from_yes (bytesS c ++ s) hs w).mono fun e w' ⟨he, hw⟩ => ⟨?_, hw⟩
  rw [he]
  refine ret2_u32 (congrArg I ?_)
  have h0 : (bytesS c ++ s)[0] = (bytesS c)[0]'(by rw [bytesS_size]; omega) := ByteArray.getElem_append_left _
  have h1 : (bytesS c ++ s)[1] = (bytesS c)[1]'(by rw [bytesS_size]; omega) := ByteArray.getElem_append_left _
  have h2 : (bytesS c ++ s)[2] = (bytesS c)[2]'(by rw [bytesS_size]; omega) := ByteArray.getElem_append_left _
  have h3 : (bytesS c ++ s)[3] = (bytesS c)[3]'(by rw [bytesS_size]; omega) := ByteArray.getElem_append_left _
  rw [h0, h1, h2, h3]
  exact Crc.word_bytes c
theorem is_out (a0 : Int) (a1 : ByteArray) (w : World) (h : 2048 < a1.size) :
    Calls Try.prog 7 #[.int .u32 a0, .string a1] w fun e w' => e = .returned (.bool true) ∧ Below w.heap.size w w' := by
  go_enter Try.func7, Try.ntmps7
  go_wp2_with (go_at_call 8; refine (alive_true _).mono ?_; rintro e w' ⟨rfl, rfl⟩)
  all_goals (go_ret; exact ⟨rfl, Below.refl _ _⟩)
set_option maxHeartbeats 400000 in
theorem is_in (a : BitVec 32) (s : ByteArray) (w : World) (h : s.size ≤ 2048) :
    Calls Try.prog 7 #[.int .u32 (I a), .string s] w fun e w' => e = .returned (.bool true) ∧ Below w.heap.size w w' := by
  by_cases h4 : s.size < 4
  all_goals
    have hd : decide (4 ≤ (s.size : Int)) = !(decide (s.size < 4)) := by by_cases q : s.size < 4 <;> simp [q] <;> omega
    have hz : (bytesS (Crc.sum a s.data.toList)).size = 4 := bytesS_size _
    go_enter Try.func7, Try.ntmps7
    go_wp2_with (first | (go_at_call 8; refine (alive_true _).mono ?_; rintro e w' ⟨rfl, rfl⟩) | (go_at_call 9; refine (castag_Sum _ _ (by omega) _).mono ?_; rintro e w' ⟨rfl, rfl⟩) | (go_at_call 11; refine (ref_Sum _ _ (by omega) _).mono ?_; rintro e w' ⟨rfl, rfl⟩) | (go_at_call 13; refine (castag_Bytes _ _).mono ?_; rintro e w1 ⟨rfl, hb1⟩) | (go_at_call 10; refine (ref_Bytes _ _).mono ?_; rintro e w1 ⟨rfl, hb1⟩) | (go_at_call 14; (with_reducible refine (from_cat _ _ _).mono ?_); rintro e w1 ⟨rfl, ⟨n, rfl⟩⟩) | (go_at_call 14; (with_reducible refine (from_few _ ?_ _).mono ?_); (omega); rintro e w1 ⟨rfl, ⟨n, rfl⟩⟩) | (go_at_call 14; (with_reducible refine (from_yes _ ?_ _).mono ?_); (omega); rintro e w1 ⟨rfl, ⟨n, rfl⟩⟩))
    go_ret
    refine ⟨rfl, ?_⟩
    repeat (with_reducible first | exact Below.refl _ _ | assumption | (refine below_on ?_ (by assumption)) | (refine below_drewN ?_))
theorem walkCastagIs (a0 : Int) (a1 : ByteArray) (w0 : (Lit.int .u32 a0).wf = true) (_ : a1.size ≤ maxLen) (w : World) :
    Calls Try.prog 7 #[.int .u32 a0, .string a1] w fun e w' => e = .returned (.bool true) ∧ Below w.heap.size w w' := by
  obtain ⟨a, rfl⟩ := I_of a0 w0
  by_cases h : 2048 < a1.size
  · exact is_out _ a1 w h
  · exact is_in a a1 w (by omega)
end Go.Proofs.Ytefkodglfhonpaa
