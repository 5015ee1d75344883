/- The contract of castag.Holds. Conditions: a text of at most 4096 bytes. -/
import Derived.Test.YtefkodglfhonpaaDoorFns
import Derived.Deep.RegionHeld3
import Derived.Lib.Strings
import Derived.Lib.IndexBytes
import Derived.Lib.Hide
namespace Go.Proofs.YtefkodglfhonpaaDoor
open Go.RowKit
structure Drew (w w' : World) : Prop where mk :: (out : ∃ n, w' = w.drewN n)
theorem castag_Sum0 (s : ByteArray) (hs : s.size ≤ 4096) (w : World) :
    Calls Tryd.prog 25 #[.int .u32 0, .string s] w fun e w' => e = .returned (.int .u32 (I (Crc.sum 0#32 s.data.toList))) ∧ w = w' := castag_Sum 0#32 s hs w
theorem ret_bool {a b : Bool} (h : a = b) : Ending.returned (.bool a) = .returned (.bool b) := by rw [h]
theorem drewN_below (w : World) (n : Nat) : Below w.heap.size w (w.drewN n) := ⟨rfl, rfl, rfl, Nat.le_refl _, fun _ _ => rfl⟩
theorem Drew.below {w w' : World} (h : Drew w w') : Below w.heap.size w w' := by
  obtain ⟨n, rfl⟩ := h
  exact drewN_below w n
theorem holds_few (s : ByteArray) (h : s.size < 4) (w : World) :
    Calls Tryd.prog 12 #[.string s] w fun e w' => e = .returned (.bool false) ∧ Below w.heap.size w w' := by
  have hd : decide ((0 : Int) ≤ (s.size : Int) - 4) = false := decide_eq_false (by omega)
  have hd2 : decide (4 ≤ (s.size : Int)) = false := decide_eq_false (by omega)
  go_enter Tryd.func12, Tryd.ntmps12
  go_wp2
  go_quiet (fail)
  go_wp2
  go_ret
  exact ⟨rfl, drewN_below _ _⟩
/-- what Holds answers of a text of four bytes or more -/
def holdsB (s : ByteArray) : Bool := (bytesS (Crc.sum 0#32 (s.data.toList.take (s.size - 4)))).toList == (s.extract (s.size - 4) s.size).toList
set_option maxHeartbeats 1000000 in
theorem holds_many (s : ByteArray) (hs : s.size ≤ 4096) (h : 4 ≤ s.size) (w : World) :
    Calls Tryd.prog 12 #[.string s] w fun e w' => e = .returned (.bool (holdsB s)) ∧ Below w.heap.size w w' := by
  obtain ⟨n, hn⟩ : ∃ n : Nat, (s.size : Int) - 4 = n := ⟨s.size - 4, by omega⟩
  obtain ⟨m, hm⟩ : ∃ m : Nat, m = s.size - 4 := ⟨_, rfl⟩
  have e : n = s.size - 4 := by omega
  have hd : decide ((0 : Int) ≤ (n : Int)) = true := decide_eq_true (by omega)
  have hb1 : 0 ≤ (n : Int) := by omega
  have hb2 : (n : Int) ≤ s.size := by omega
  have hb3 : n ≤ s.size := by omega
  have hb4 : min n s.size ≤ 4096 := by omega
  have E := Lib.hid e
  clear e hm h
  go_enter Tryd.func12, Tryd.ntmps12
  go_wp2
  go_region_held3 (fun _ => True) (exact trivial) (first | (go_at_call 25; refine (castag_Sum0 _ (by simp; omega) _).mono ?_; rintro e w' ⟨rfl, rfl⟩) | (go_at_call 24; refine (castag_Bytes _ _).mono ?_; rintro e w' ⟨rfl, hbel⟩))
  go_wp2
  go_ret
  exact ⟨ret_bool (by rw [holdsB, ← E.out]), ((Below.refl _ _).drew).trans hbel⟩
theorem below_drew1 (w : World) : Below w.heap.size w w.drew := (Below.refl _ _).drew
theorem data_append (a b : ByteArray) : (a ++ b).data.toList = a.data.toList ++ b.data.toList := by simp
theorem holdsB_eq (s : ByteArray) (_ : 4 ≤ s.size) : holdsB s = (Crc.bytes (Crc.sum 0#32 (s.data.toList.take (s.size - 4))) == s.data.toList.drop (s.size - 4)) := by
  unfold holdsB
  rw [ByteArray.toList_eq, ByteArray.toList_eq]
  have e : (s.extract (s.size - 4) s.size).data.toList = s.data.toList.drop (s.size - 4) := by
    simp
    rw [List.take_of_length_le (by simp)]
  rw [e]
  rfl
end Go.Proofs.YtefkodglfhonpaaDoor
