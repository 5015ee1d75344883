/- The walk of the law CastagHolds. Conditions: those of its row. -/
import Derived.Test.YtefkodglfhonpaaIs
namespace Go.Proofs.Ytefkodglfhonpaa
open Go.RowKit
theorem max_nat (n : Nat) (ats : Array TypeId) (ty : TypeId) : Builtin.max_ ats ty #[.int .i64 (n : Int), .int .i64 0] = pure (.int .i64 (n : Int)) := by
  have h : ¬ ((n : Int) < 0) := by omega
  simp only [Builtin.max_, List.foldlM_cons, List.foldlM_nil, Builtin.max2, gt_iff_lt, if_neg h]
  rfl
theorem below_drew1 (w : World) : Below w.heap.size w w.drew := (Below.refl _ _).drew
theorem data_append (a b : ByteArray) : (a ++ b).data.toList = a.data.toList ++ b.data.toList := by simp
theorem holdsB_eq (s : ByteArray) (_ : 4 ≤ s.size) : holdsB s = (Crc.bytes (Crc.sum 0#32 (s.data.toList.take (s.size - 4))) == s.data.toList.drop (s.size - 4)) := by
  unfold holdsB
  rw [ByteArray.toList_eq, ByteArray.toList_eq]
  have e : (s.extract (s.size - 4) s.size).data.toList = s.data.toList.drop (s.size - 4) := by
    simp
    rw [List.take_of_length_le (by simp)]
  rw [e]
  rfl
theorem holdsB_cat (s : ByteArray) : holdsB (s ++ bytesS (Crc.sum 0#32 s.data.toList)) = true := by
  have hl : (s ++ bytesS (Crc.sum 0#32 s.data.toList)).size = s.size + 4 := by rw [ByteArray.size_append, bytesS_size]
  rw [holdsB_eq _ (by omega), data_append, hl, Nat.add_sub_cancel]
  have h1 : s.data.toList.length = s.size := by simp
  rw [← h1, List.take_left, List.drop_left]
  simp [bytesS]
theorem holds_cat (s : ByteArray) (hs : s.size ≤ 4000) (w : World) :
    Calls Try.prog 12 #[.string (s ++ bytesS (Crc.sum 0#32 s.data.toList))] w fun e w' => e = .returned (.bool true) ∧ Below w.heap.size w w' := by
  have hl : (s ++ bytesS (Crc.sum 0#32 s.data.toList)).size = s.size + 4 := by rw [ByteArray.size_append, bytesS_size]
  refine (holds_many _ (by omega) (by omega) w).mono fun e w' ⟨he, hw⟩ => ⟨?_, hw⟩
  rw [he, holdsB_cat]
theorem holds_at (s : ByteArray) (n : Nat) (hs : s.size ≤ 4096) (h : n + 4 = s.size) (w : World) :
    Calls Try.prog 12 #[.string s] w fun e w' => e = .returned (.bool ((bytesS (Crc.sum 0#32 (List.take n s.data.toList))).toList == (s.extract n s.size).toList)) ∧ Below w.heap.size w w' := by
  refine (holds_many s hs (by omega) w).mono fun e w' ⟨he, hw⟩ => ⟨?_, hw⟩
  rw [he, holdsB, show s.size - 4 = n by omega]
theorem ref_Sum0 (s : ByteArray) (hs : s.size ≤ 4096) (w : World) :
    Calls Try.prog 11 #[.int .u32 0, .string s] w fun e w' => e = .returned (.int .u32 (I (Crc.sum 0#32 s.data.toList))) ∧ w = w' := ref_Sum 0#32 s hs w
theorem hol_out (s : ByteArray) (w : World) (h : 2048 < s.size) :
    Calls Try.prog 5 #[.string s] w fun e w' => e = .returned (.bool true) ∧ Below w.heap.size w w' := by
  go_enter Try.func5, Try.ntmps5
  go_wp2_with (go_at_call 8; refine (alive_true _).mono ?_; rintro e w' ⟨rfl, rfl⟩)
  all_goals (go_ret; exact ⟨rfl, Below.refl _ _⟩)
set_option maxHeartbeats 400000 in
theorem hol_few (s : ByteArray) (w : World) (h : s.size < 4) :
    Calls Try.prog 5 #[.string s] w fun e w' => e = .returned (.bool true) ∧ Below w.heap.size w w' := by
  have hd : decide ((0 : Int) ≤ (s.size : Int) - 4) = false := decide_eq_false (by omega)
  have hd2 : decide (4 ≤ (s.size : Int)) = false := decide_eq_false (by omega)
  have hz : (bytesS (Crc.sum 0#32 s.data.toList)).size = 4 := bytesS_size _
  go_enter Try.func5, Try.ntmps5
  go_wp2_with (go_at_call 8; refine (alive_true _).mono ?_; rintro e w' ⟨rfl, rfl⟩)
  go_quiet (fail)
  go_wp2_with (first | (go_at_call 11; refine (ref_Sum0 _ (by omega) _).mono ?_; rintro e w' ⟨rfl, rfl⟩) | (go_at_call 10; refine (ref_Bytes _ _).mono ?_; rintro e w1 ⟨rfl, hb1⟩) | (go_at_call 12; (with_reducible refine (holds_cat _ ?_ _).mono ?_); (omega); rintro e w1 ⟨rfl, hb1⟩) | (go_at_call 12; (with_reducible refine (holds_few _ ?_ _).mono ?_); (omega); rintro e w1 ⟨rfl, hb1⟩))
  go_ret
  refine ⟨rfl, ?_⟩
  repeat (with_reducible first | exact Below.refl _ _ | assumption | (refine below_on ?_ (by assumption)) | (refine below_drewN ?_))
set_option maxHeartbeats 1000000 in
theorem hol_many (s : ByteArray) (w : World) (h : 4 ≤ s.size) (hs : s.size ≤ 2048) :
    Calls Try.prog 5 #[.string s] w fun e w' => e = .returned (.bool true) ∧ Below w.heap.size w w' := by
  obtain ⟨n, hn⟩ : ∃ n : Nat, (s.size : Int) - 4 = n := ⟨s.size - 4, by omega⟩
  have e : n + 4 = s.size := by omega
  have hd : decide ((0 : Int) ≤ (n : Int)) = true := decide_eq_true (by omega)
  have hb1 : 0 ≤ (n : Int) := by omega
  have hb2 : (n : Int) ≤ s.size := by omega
  have hb3 : n ≤ s.size := by omega
  have hb4 : min n s.size ≤ 4096 := by omega
  have hz : (bytesS (Crc.sum 0#32 s.data.toList)).size = 4 := bytesS_size _
  have hmx := max_nat n
  have E := Lib.hid e
  clear e h
  go_enter Try.func5, Try.ntmps5
  go_wp2_with (go_at_call 8; refine (alive_true _).mono ?_; rintro e w' ⟨rfl, rfl⟩)
  go_region_held3 (fun _ => True) (exact trivial) (first | (go_at_call 11; refine (ref_Sum0 _ (by simp; omega) _).mono ?_; rintro e w' ⟨rfl, rfl⟩) | (go_at_call 10; refine (ref_Bytes _ _).mono ?_; rintro e w' ⟨rfl, hbel⟩))
  all_goals
    go_wp2_with (first | (go_at_call 11; refine (ref_Sum0 _ (by omega) _).mono ?_; rintro e w' ⟨rfl, rfl⟩) | (go_at_call 10; refine (ref_Bytes _ _).mono ?_; rintro e w1 ⟨rfl, hb1⟩) | (go_at_call 12; (with_reducible refine (holds_cat _ ?_ _).mono ?_); (omega); rintro e w1 ⟨rfl, hb1⟩) | (go_at_call 12; go_must (refine (holds_at s n ?_ ?_ _).mono ?_); (omega); (exact E.out); rintro e w1 ⟨rfl, hb1⟩))
    go_ret
    refine ⟨rfl, ?_⟩
    repeat (with_reducible first | exact Below.refl _ _ | exact below_drew1 _ | assumption | (refine below_on ?_ (by assumption)) | (refine below_drewN ?_))
theorem walkCastagHolds (a0 : ByteArray) (_ : a0.size ≤ maxLen) (w : World) :
    Calls Try.prog 5 #[.string a0] w fun e w' => e = .returned (.bool true) ∧ Below w.heap.size w w' := by
  by_cases h : 2048 < a0.size
  · exact hol_out a0 w h
  · by_cases h4 : a0.size < 4
    · exact hol_few a0 w h4
    · exact hol_many a0 w (by omega) (by omega)
end Go.Proofs.Ytefkodglfhonpaa
