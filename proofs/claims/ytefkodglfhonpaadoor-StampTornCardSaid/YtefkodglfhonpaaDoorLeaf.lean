/- The contracts of stamp.good and of the reference's Good. Conditions: none. -/
import Derived.Test.YtefkodglfhonpaaDoorTapeD
namespace Go.Proofs.YtefkodglfhonpaaDoor
open Go.RowKit Go.PlainAid
/-- can a leaf be? -/
def isLeaf (n i : Int) (d : ByteArray) : Bool := decide (1 ≤ n) && decide (n ≤ 1152921504606846976) && decide (0 ≤ i) && decide (i < 4096) && decide (d.size ≤ 104)
set_option maxRecDepth 100000 in
theorem refgood_any (n i : Int) (d : ByteArray) (w : World) :
    Calls Tryd.prog 8 #[.int .i64 n, .int .i64 i, .string d] w fun e w' => e = .returned (.bool (isLeaf n i d)) ∧ w = w' := by
  by_cases h1 : 1 ≤ n
  · by_cases h2 : n ≤ 1152921504606846976
    · by_cases h3 : 0 ≤ i
      · by_cases h4 : i < 4096
        · by_cases h5 : d.size ≤ 104
          · have e : isLeaf n i d = true := by unfold isLeaf; simp [h1, h2, h3, h4, h5]
            rw [e]
            clear e
            go_enter Tryd.func8, Tryd.ntmps8
            go_wp2
            go_ret
            exact ⟨ret_bool (by first | rfl | (simp; omega)), rfl⟩
          · have e : isLeaf n i d = false := by unfold isLeaf; simp [h1, h2, h3, h4, h5]
            rw [e]
            clear e
            go_enter Tryd.func8, Tryd.ntmps8
            go_wp2
            go_ret
            exact ⟨ret_bool (by first | rfl | (simp; omega)), rfl⟩
        · have e : isLeaf n i d = false := by unfold isLeaf; simp [h1, h2, h3, h4]
          rw [e]
          clear e
          go_enter Tryd.func8, Tryd.ntmps8
          go_wp2
          go_ret
          exact ⟨ret_bool (by first | rfl | (simp; omega)), rfl⟩
      · have e : isLeaf n i d = false := by unfold isLeaf; simp [h1, h2, h3]
        rw [e]
        clear e
        go_enter Tryd.func8, Tryd.ntmps8
        go_wp2
        go_ret
        exact ⟨ret_bool (by first | rfl | (simp; omega)), rfl⟩
    · have e : isLeaf n i d = false := by unfold isLeaf; simp [h1, h2]
      rw [e]
      clear e
      go_enter Tryd.func8, Tryd.ntmps8
      go_wp2
      go_ret
      exact ⟨ret_bool (by first | rfl | (simp; omega)), rfl⟩
  · have e : isLeaf n i d = false := by unfold isLeaf; simp [h1]
    rw [e]
    clear e
    go_enter Tryd.func8, Tryd.ntmps8
    go_wp2
    go_ret
    exact ⟨ret_bool (by first | rfl | (simp; omega)), rfl⟩
set_option maxRecDepth 100000 in
theorem good_any (n i : Int) (d : ByteArray) (w : World) :
    Calls Tryd.prog 17 #[.agg #[.int .i64 n, .int .i64 i, .string d]] w fun e w' => e = .returned (.bool (isLeaf n i d)) ∧ Below w.heap.size w w' := by
  by_cases h1 : 1 ≤ n
  · by_cases h2 : n ≤ 1152921504606846976
    · by_cases h3 : 0 ≤ i
      · by_cases h4 : i < 4096
        · by_cases h5 : d.size ≤ 104
          · have e : isLeaf n i d = true := by unfold isLeaf; simp [h1, h2, h3, h4, h5]
            rw [e]
            clear e
            go_enter Tryd.func17, Tryd.ntmps17
            go_wp2
            go_ret
            exact ⟨ret_bool (by first | rfl | (simp; omega)), (Below.refl _ _).alloc (Nat.le_refl _) _⟩
          · have e : isLeaf n i d = false := by unfold isLeaf; simp [h1, h2, h3, h4, h5]
            rw [e]
            clear e
            go_enter Tryd.func17, Tryd.ntmps17
            go_wp2
            go_ret
            exact ⟨ret_bool (by first | rfl | (simp; omega)), (Below.refl _ _).alloc (Nat.le_refl _) _⟩
        · have e : isLeaf n i d = false := by unfold isLeaf; simp [h1, h2, h3, h4]
          rw [e]
          clear e
          go_enter Tryd.func17, Tryd.ntmps17
          go_wp2
          go_ret
          exact ⟨ret_bool (by first | rfl | (simp; omega)), (Below.refl _ _).alloc (Nat.le_refl _) _⟩
      · have e : isLeaf n i d = false := by unfold isLeaf; simp [h1, h2, h3]
        rw [e]
        clear e
        go_enter Tryd.func17, Tryd.ntmps17
        go_wp2
        go_ret
        exact ⟨ret_bool (by first | rfl | (simp; omega)), (Below.refl _ _).alloc (Nat.le_refl _) _⟩
    · have e : isLeaf n i d = false := by unfold isLeaf; simp [h1, h2]
      rw [e]
      clear e
      go_enter Tryd.func17, Tryd.ntmps17
      go_wp2
      go_ret
      exact ⟨ret_bool (by first | rfl | (simp; omega)), (Below.refl _ _).alloc (Nat.le_refl _) _⟩
  · have e : isLeaf n i d = false := by unfold isLeaf; simp [h1]
    rw [e]
    clear e
    go_enter Tryd.func17, Tryd.ntmps17
    go_wp2
    go_ret
    exact ⟨ret_bool (by first | rfl | (simp; omega)), (Below.refl _ _).alloc (Nat.le_refl _) _⟩
end Go.Proofs.YtefkodglfhonpaaDoor
