/- The contract of bondstorelaw01.alive: true, where wide.Most lies as it is laid. Conditions: wide.Most holds the greatest number. -/
import Derived.Test.YtjjlfkbgieloeaaDoorShow
import Derived.Deep.RegionHeld3
import Derived.Deep.RegionWith
namespace Go.Proofs.YtjjlfkbgieloeaaDoor
open Go.RowKit
/-- wide.Most is there -/
structure MostIs (w : World) : Prop where
  c0 : w.cell? ⟨0, 0, none⟩ = some (.int .u64 (hi (M - 1)))
  c1 : w.cell? ⟨0, 1, none⟩ = some (.int .u64 (lo (M - 1)))
theorem MostIs.lt {w : World} (h : MostIs w) : 0 < w.heap.size := World.block_lt_of_cell? w _ h.c0
theorem MostIs.below {w w' : World} (h : MostIs w) (hb : Below w.heap.size w w') : MostIs w' := ⟨(hb.cell (p := ⟨0, 0, none⟩) h.lt).trans h.c0, (hb.cell (p := ⟨0, 1, none⟩) h.lt).trans h.c1⟩
def df : Nat → Nat → List UInt8
  | 0, _ => []
  | k + 1, a => if a < 10 then [UInt8.ofNat (48 + a)] else df k (a / 10) ++ [UInt8.ofNat (48 + a % 10)]
theorem df_eq (k : Nat) : ∀ a, a < 10 ^ (k + 1) → decs a = df (k + 1) a := by
  induction k with
  | zero => intro a h; rw [decs, df, if_pos (by simpa using h), if_pos (by simpa using h)]
  | succ k ih =>
    intro a h
    rw [decs, df]
    by_cases h1 : a < 10
    · rw [if_pos h1, if_pos h1]
    · rw [if_neg h1, if_neg h1, ih]
      rw [Nat.pow_succ] at h
      omega
def mostText : List UInt8 := [51, 52, 48, 50, 56, 50, 51, 54, 54, 57, 50, 48, 57, 51, 56, 52, 54, 51, 52, 54, 51, 51, 55, 52, 54, 48, 55, 52, 51, 49, 55, 54, 56, 50, 49, 49, 52, 53, 53]
theorem decs_most : decs (M - 1) = mostText := by
  rw [df_eq 39 (M - 1) (by decide +kernel)]
  decide +kernel
theorem show_most (w : World) : Calls Tryd.prog 35 #[A (M - 1)] w fun e w' => e = .returned (.string ⟨#[51, 52, 48, 50, 56, 50, 51, 54, 54, 57, 50, 48, 57, 51, 56, 52, 54, 51, 52, 54, 51, 51, 55, 52, 54, 48, 55, 52, 51, 49, 55, 54, 56, 50, 49, 49, 52, 53, 53]⟩) ∧ Below w.heap.size w w' := by
  refine (show_any (M - 1) w (by decide +kernel)).mono fun e w' ⟨he, hw⟩ => ⟨?_, hw⟩
  rw [he, decs_most]
  rfl
theorem of_one (w : World) : Calls Tryd.prog 38 #[.int .u64 1] w fun e w' => e = .returned (A 1) ∧ Below w.heap.size w w' := of_any 1 w (by decide)
theorem add_most (w : World) : Calls Tryd.prog 23 #[A (M - 1), A 1] w fun e w' => e = .returned (.tuple #[.agg #[.int .u64 0, .int .u64 0], .bool false]) ∧ Below w.heap.size w w' :=
  add_no (M - 1) 1 w (by decide +kernel) (by decide +kernel) (by decide +kernel)
set_option maxHeartbeats 1000000 in
theorem alive_true (w : World) (hm : MostIs w) :
    Calls Tryd.prog 14 #[] w fun e w' => e = .returned (.bool true) ∧ Below w.heap.size w w' := by
  have h0 := hm.c0
  have h1 := hm.c1
  have hlt := hm.lt
  go_enter Tryd.func14, Tryd.ntmps14
  go_wp2
  go_region_with (first | (go_at_call 38; refine (of_one _).mono ?_; rintro e w1 ⟨rfl, hb1⟩; obtain ⟨hc, hf⟩ := bcell hb1; (try simp only [World.size_drew, World.cell?_drew, World.frozen?_drew] at hc hf); have hs1 : 0 < w1.heap.size := Nat.lt_of_lt_of_le (by first | assumption | (simp; done) | (simp; omega)) hb1.size; have hz := hb1.size; (try simp [Nat.add_one_le_iff] at hz)) | (go_at_call 23; refine (add_most _).mono ?_; rintro e w1 ⟨rfl, hb1⟩; obtain ⟨hc, hf⟩ := bcell hb1; (try simp only [World.size_drew, World.cell?_drew, World.frozen?_drew] at hc hf); have hs1 : 0 < w1.heap.size := Nat.lt_of_lt_of_le (by first | assumption | (simp; done) | (simp; omega)) hb1.size; have hz := hb1.size; (try simp [Nat.add_one_le_iff] at hz)))
  all_goals go_wp2_with (go_at_call 35; refine (show_most _).mono ?_; rintro e w5 ⟨rfl, hb5⟩)
  all_goals go_ret
  all_goals (refine ⟨rfl, ?_⟩; repeat (with_reducible first | exact Below.refl _ _ | assumption | refine below_al ?_ _ | refine below_set ?_ (by omega) | refine below_drewN ?_ | refine below_dr ?_ | refine below_on ?_ (by assumption)))
end Go.Proofs.YtjjlfkbgieloeaaDoor
