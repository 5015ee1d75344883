/- The contracts of shelf.Show and bondstorelaw26.alive. Conditions: none. -/
import Derived.Test.YtjjlfkbgieloeaaDoorId
namespace Go.Proofs.YtjjlfkbgieloeaaDoor
open Go.RowKit Go.PlainAid
set_option maxRecDepth 100000 in
theorem pshow_no (g s : ByteArray) (st : Int) (w : World) (hg : g.size ≤ 9223372036854775807) (hs : s.size ≤ 9223372036854775807) (h : isPlace g s st = false) :
    Calls Tryd.prog 40 #[.agg #[.string g, .string s, .int .i64 st]] w fun e w' => e = .returned (.string ⟨#[]⟩) ∧ Below w.heap.size w w' := by
  have HT := fun w => good_is g s st false w hg hs h
  clear h
  go_enter Tryd.func40, Tryd.ntmps40
  go_wp2_with fail
  refine (HT _).mono ?_
  rintro e w1 ⟨rfl, hb1⟩
  go_wp2
  go_ret
  exact ⟨rfl, by repeat (with_reducible first | exact Below.refl _ _ | assumption | refine below_al ?_ _ | refine below_on ?_ (by assumption))⟩
set_option maxRecDepth 100000 in
theorem pshow_yes (g s : ByteArray) (st : Int) (w : World) (hg : g.size ≤ 9223372036854775807) (hs : s.size ≤ 9223372036854775807) (h : isPlace g s st = true) :
    Calls Tryd.prog 40 #[.agg #[.string g, .string s, .int .i64 st]] w fun e w' => e = .returned (.string (g ++ ⟨#[64]⟩ ++ s)) ∧ Below w.heap.size w w' := by
  have HT := fun w => good_is g s st true w hg hs h
  obtain ⟨b1, b2, _, _⟩ := plc_bounds h
  clear h
  have Ba := Blk.new w 39 #[.string g, .string s, .int .i64 st]
  have hsz : (g ++ (⟨#[64]⟩ : ByteArray)).size = g.size + 1 := by rw [ByteArray.size_append]; rfl
  go_enter Tryd.func40, Tryd.ntmps40
  go_wp2_with fail
  refine (HT _).mono ?_
  rintro e w1 ⟨rfl, hb1⟩
  have Ba1 := Blk.carry Ba hb1
  obtain ⟨c0, c1, c2⟩ := plc_cells Ba1
  have l0 := Ba1.lt
  go_wp2
  go_ret
  exact ⟨rfl, by repeat (with_reducible first | exact Below.refl _ _ | assumption | refine below_al ?_ _ | refine below_on ?_ (by assumption))⟩
def bolt : ByteArray := ⟨#[66, 79, 76, 84]⟩
def ny : ByteArray := ⟨#[78, 89]⟩
theorem bolt_place : isPlace bolt ny 1 = true := by decide
theorem id_bolt : ∃ x y : Int, ∀ w, Calls Tryd.prog 30 #[.agg #[.string ⟨#[66, 79, 76, 84]⟩, .string ⟨#[78, 89]⟩, .int .i64 1]] w fun e w' => e = .returned (.tuple #[.agg #[.int .u64 x, .int .u64 y], .int .i64 0]) ∧ Below w.heap.size w w' :=
  ⟨_, _, fun w => id_yes bolt ny 1 w (by decide) (by decide) bolt_place⟩
theorem show_bolt (w : World) : Calls Tryd.prog 40 #[.agg #[.string ⟨#[66, 79, 76, 84]⟩, .string ⟨#[78, 89]⟩, .int .i64 1]] w fun e w' => e = .returned (.string ⟨#[66, 79, 76, 84, 64, 78, 89]⟩) ∧ Below w.heap.size w w' :=
  pshow_yes bolt ny 1 w (by decide) (by decide) bolt_place
set_option maxRecDepth 100000 in
theorem alive26 (w : World) : Calls Tryd.prog 28 #[] w fun e w' => e = .returned (.bool true) ∧ Below w.heap.size w w' := by
  obtain ⟨x, y, HI⟩ := id_bolt
  have Ba := Blk.new w 39 #[.string ⟨#[66, 79, 76, 84]⟩, .string ⟨#[78, 89]⟩, .int .i64 1]
  go_enter Tryd.func28, Tryd.ntmps28
  go_wp2_with fail
  refine (HI _).mono ?_
  rintro e w1 ⟨rfl, hb1⟩
  have Ba1 := Blk.carry Ba hb1
  obtain ⟨c0, c1, c2⟩ := plc_cells Ba1
  have l0 := Ba1.lt
  go_wp2_with fail
  refine (show_bolt _).mono ?_
  rintro e w2 ⟨rfl, hb2⟩
  go_wp2
  go_ret
  exact ⟨rfl, by repeat (with_reducible first | exact Below.refl _ _ | assumption | refine below_al ?_ _ | refine below_on ?_ (by assumption))⟩
end Go.Proofs.YtjjlfkbgieloeaaDoor
