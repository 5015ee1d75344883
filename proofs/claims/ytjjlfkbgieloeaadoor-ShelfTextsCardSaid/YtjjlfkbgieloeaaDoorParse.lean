/- The contract of wide.Parse. Conditions: none. -/
import Derived.Test.YtjjlfkbgieloeaaDoorDec
import Derived.Test.YtjjlfkbgieloeaaDoorTms
namespace Go.Proofs.YtjjlfkbgieloeaaDoor
open Go.RowKit Go.PlainAid
def ErrPost (w : World) (e : Ending) (w' : World) : Prop := e = .returned (.tuple #[.agg #[.int .u64 0, .int .u64 0], .int .i64 4]) ∧ Below w.heap.size w w'
theorem two_zero (w : World) : Blk ((w.alloc (.cells #[.int .u64 0, .int .u64 0] 24)).alloc (.cells #[.int .u64 0, .int .u64 0] 24)) w.heap.size 24 #[.int .u64 0, .int .u64 0] ∧
    Blk ((w.alloc (.cells #[.int .u64 0, .int .u64 0] 24)).alloc (.cells #[.int .u64 0, .int .u64 0] 24)) (w.heap.size + 1) 24 #[.int .u64 0, .int .u64 0] := by
  have h := two_new w 0 0
  exact h
theorem isEmpty_no (s : ByteArray) (h : 0 < s.size) : s.toList.isEmpty = false := by
  rw [Lib.toList_data]
  cases e : s.data.toList with
  | nil => have h2 : s.data.toList.length = s.size := rfl; rw [e, List.length_nil] at h2; omega
  | cons _ _ => rfl
set_option maxRecDepth 100000 in
theorem parse_empty (w : World) : Calls Tryd.prog 36 #[.string ⟨#[]⟩] w (ErrPost w) := by
  go_enter Tryd.func36, Tryd.ntmps36
  go_wp2
  exact bodyPost_ret (v := .tuple #[.agg #[.int .u64 0, .int .u64 0], .int .i64 4]) (by simp [results, Tryd.results36, go_sem]) rfl ⟨rfl, by repeat (with_reducible first | exact Below.refl _ _ | assumption | refine below_al ?_ _ | refine below_set ?_ (by omega) | refine below_drewN ?_ | refine below_dr ?_ | refine below_on ?_ (by assumption))⟩
set_option maxRecDepth 100000 in
theorem parse_lead (s : ByteArray) (w : World) (h1 : 1 < s.size) (h2 : bt s 0 = 48) (hs : s.size ≤ 9223372036854775807) : Calls Tryd.prog 36 #[.string s] w (ErrPost w) := by
  have hbt := get_bt s
  have he := isEmpty_no s (by omega)
  go_enter Tryd.func36, Tryd.ntmps36
  go_wp2
  exact bodyPost_ret (v := .tuple #[.agg #[.int .u64 0, .int .u64 0], .int .i64 4]) (by simp [results, Tryd.results36, go_sem]) rfl ⟨rfl, by repeat (with_reducible first | exact Below.refl _ _ | assumption | refine below_al ?_ _ | refine below_set ?_ (by omega) | refine below_drewN ?_ | refine below_dr ?_ | refine below_on ?_ (by assumption))⟩
set_option maxRecDepth 100000 in
theorem parse_bad (s : ByteArray) (w : World) (h0 : 0 < s.size) (h1 : s.size = 1 ∨ ¬ bt s 0 = 48) (hs : s.size ≤ 9223372036854775807) (hd : ¬ s.data.toList.all dig = true) : Calls Tryd.prog 36 #[.string s] w (ErrPost w) := by
  obtain ⟨r, hr, HT⟩ := trim_no s hs hd
  have hr2 : r.toList.isEmpty = false := isEmpty_no r (by
    rcases Nat.eq_zero_or_pos r.size with h | h
    · exfalso
      apply hr
      apply ByteArray.ext
      exact Array.eq_empty_of_size_eq_zero h
    · exact h)
  have hbt := get_bt s
  have he := isEmpty_no s h0
  obtain ⟨Ba, Bb⟩ := two_zero w
  have H1 := Lib.hid h1
  clear h1 hr hd
  rcases H1.out with h1 | h1
  · go_enter Tryd.func36, Tryd.ntmps36
    go_wp2_with fail
    refine (HT _).mono ?_
    rintro e w1 ⟨rfl, hb1⟩
    have Ba1 := Blk.carry Ba hb1
    have Bb1 := Blk.carry Bb hb1
    have c0 := cell_of0 Ba1
    have c1 := cell_of1 Ba1
    have d0 := cell_of0 Bb1
    have d1 := cell_of1 Bb1
    have f0 := Ba1.frozen 0
    have f1 := Ba1.frozen 1
    have l0 := Ba1.lt
    have l1 := Bb1.lt
    go_wp2
    exact bodyPost_ret (v := .tuple #[.agg #[.int .u64 0, .int .u64 0], .int .i64 4]) (by simp [results, Tryd.results36, go_sem, c0, c1]) rfl ⟨rfl, by repeat (with_reducible first | exact Below.refl _ _ | assumption | refine below_al ?_ _ | refine below_set ?_ (by omega) | refine below_drewN ?_ | refine below_dr ?_ | refine below_on ?_ (by assumption))⟩
  · have h2 : (bt s 0 == 48) = false := by simpa using h1
    by_cases h3 : 1 < s.size
    all_goals
      go_enter Tryd.func36, Tryd.ntmps36
      go_wp2_with fail
      refine (HT _).mono ?_
      rintro e w1 ⟨rfl, hb1⟩
      have Ba1 := Blk.carry Ba hb1
      have Bb1 := Blk.carry Bb hb1
      have c0 := cell_of0 Ba1
      have c1 := cell_of1 Ba1
      have d0 := cell_of0 Bb1
      have d1 := cell_of1 Bb1
      have f0 := Ba1.frozen 0
      have f1 := Ba1.frozen 1
      have l0 := Ba1.lt
      have l1 := Bb1.lt
      go_wp2
      exact bodyPost_ret (v := .tuple #[.agg #[.int .u64 0, .int .u64 0], .int .i64 4]) (by simp [results, Tryd.results36, go_sem, c0, c1]) rfl ⟨rfl, by repeat (with_reducible first | exact Below.refl _ _ | assumption | refine below_al ?_ _ | refine below_set ?_ (by omega) | refine below_drewN ?_ | refine below_dr ?_ | refine below_on ?_ (by assumption))⟩
end Go.Proofs.YtjjlfkbgieloeaaDoor
