/- The contract of shelf.Good. Conditions: texts of a length that there can be. -/
import Derived.Test.YtjjlfkbgieloeaaDoorName
namespace Go.Proofs.YtjjlfkbgieloeaaDoor
open Go.RowKit Go.PlainAid
def isState (st : Int) : Bool := decide (0 ≤ st) && decide (st ≤ 2)
def isPlace (g s : ByteArray) (st : Int) : Bool := isName g 10 && isName s 4 && isState st
theorem plc_cells {w : World} {b : Nat} {g s : ByteArray} {st : Int} (h : Blk w b 39 #[.string g, .string s, .int .i64 st]) : w.cell? ⟨b, 0, none⟩ = some (.string g) ∧ w.cell? ⟨b, 1, none⟩ = some (.string s) ∧ w.cell? ⟨b, 2, none⟩ = some (.int .i64 st) := ⟨h.cell 0, h.cell 1, h.cell 2⟩
theorem name_is (s : ByteArray) (most : Nat) (b : Bool) (w : World) (hs : s.size ≤ 9223372036854775807) (h : isName s most = b) :
    Calls Tryd.prog 46 #[.string s, .int .i64 most] w fun e w' => e = .returned (.bool b) ∧ Below w.heap.size w w' := h ▸ name_any s most w hs
set_option maxRecDepth 100000 in
set_option maxHeartbeats 2000000 in
theorem good_any (g s : ByteArray) (st : Int) (w : World) (hg : g.size ≤ 9223372036854775807) (hs : s.size ≤ 9223372036854775807) :
    Calls Tryd.prog 32 #[.agg #[.string g, .string s, .int .i64 st]] w fun e w' => e = .returned (.bool (isPlace g s st)) ∧ Below w.heap.size w w' := by
  have Ba := Blk.new w 39 #[.string g, .string s, .int .i64 st]
  have hP : isPlace g s st = (isName g 10 && isName s 4 && isState st) := rfl
  cases h1 : isName g 10
  · rw [h1, Bool.false_and, Bool.false_and] at hP
    rw [hP]
    have HT := fun w => name_is g 10 false w hg h1
    clear h1 hP
    go_enter Tryd.func32, Tryd.ntmps32
    go_wp2_with (go_at_call 46; refine (HT _).mono ?_; rintro e w1 ⟨rfl, hb1⟩)
    go_ret
    exact ⟨rfl, by repeat (with_reducible first | exact Below.refl _ _ | assumption | refine below_al ?_ _ | refine below_set ?_ (by omega) | refine below_dr ?_ | refine below_on ?_ (by assumption))⟩
  · cases h2 : isName s 4
    · rw [h1, h2, Bool.and_false, Bool.false_and] at hP
      rw [hP]
      have HT := fun w => name_is g 10 true w hg h1
      have HT2 := fun w => name_is s 4 false w hs h2
      clear h1 h2 hP
      go_enter Tryd.func32, Tryd.ntmps32
      go_wp2_with fail
      refine (HT _).mono ?_
      rintro e w1 ⟨rfl, hb1⟩
      have Ba1 := Blk.carry Ba hb1
      obtain ⟨c0, c1, c2⟩ := plc_cells Ba1
      have l0 := Ba1.lt
      go_wp2_with fail
      refine (HT2 _).mono ?_
      rintro e w2 ⟨rfl, hb2⟩
      go_wp2
      go_ret
      exact ⟨rfl, by repeat (with_reducible first | exact Below.refl _ _ | assumption | refine below_al ?_ _ | refine below_set ?_ (by omega) | refine below_dr ?_ | refine below_on ?_ (by assumption))⟩
    · rw [h1, h2, Bool.true_and, Bool.true_and] at hP
      rw [hP]
      have HT := fun w => name_is g 10 true w hg h1
      have HT2 := fun w => name_is s 4 true w hs h2
      clear h1 h2 hP
      unfold isState
      by_cases q1 : 0 ≤ st
      · by_cases q2 : st ≤ 2
        all_goals
          go_enter Tryd.func32, Tryd.ntmps32
          go_wp2_with fail
          refine (HT _).mono ?_
          rintro e w1 ⟨rfl, hb1⟩
          have Ba1 := Blk.carry Ba hb1
          obtain ⟨c0, c1, c2⟩ := plc_cells Ba1
          have l0 := Ba1.lt
          go_wp2_with fail
          refine (HT2 _).mono ?_
          rintro e w2 ⟨rfl, hb2⟩
          have Ba2 := Blk.carry Ba1 hb2
          clear c0 c1 c2 l0
          obtain ⟨c0, c1, c2⟩ := plc_cells Ba2
          have l0 := Ba2.lt
          go_wp2
          go_ret
          exact ⟨ret_bool (by simp [q1, q2]), by repeat (with_reducible first | exact Below.refl _ _ | assumption | refine below_al ?_ _ | refine below_set ?_ (by omega) | refine below_dr ?_ | refine below_on ?_ (by assumption))⟩
      · go_enter Tryd.func32, Tryd.ntmps32
        go_wp2_with fail
        refine (HT _).mono ?_
        rintro e w1 ⟨rfl, hb1⟩
        have Ba1 := Blk.carry Ba hb1
        obtain ⟨c0, c1, c2⟩ := plc_cells Ba1
        have l0 := Ba1.lt
        go_wp2_with fail
        refine (HT2 _).mono ?_
        rintro e w2 ⟨rfl, hb2⟩
        have Ba2 := Blk.carry Ba1 hb2
        clear c0 c1 c2 l0
        obtain ⟨c0, c1, c2⟩ := plc_cells Ba2
        have l0 := Ba2.lt
        go_wp2
        go_ret
        exact ⟨ret_bool (by simp; omega), by repeat (with_reducible first | exact Below.refl _ _ | assumption | refine below_al ?_ _ | refine below_set ?_ (by omega) | refine below_dr ?_ | refine below_on ?_ (by assumption))⟩
end Go.Proofs.YtjjlfkbgieloeaaDoor
