/- The contracts of the reference's Good and of the law's good. Conditions: none. -/
import Derived.Test.YtjjlfkbgieloeaaDoorRefName
namespace Go.Proofs.YtjjlfkbgieloeaaDoor
open Go.RowKit Go.PlainAid
theorem refname_is (s : ByteArray) (most : Nat) (b : Bool) (w : World) (hm : most < 100) (h : isName s most = b) :
    Calls Tryd.prog 45 #[.string s, .int .i64 most] w fun e w' => e = .returned (.bool b) ∧ Below w.heap.size w w' := h ▸ refname_any s most w hm
set_option maxRecDepth 100000 in
theorem refgood_any (g s : ByteArray) (st : Int) (w : World) :
    Calls Tryd.prog 31 #[.string g, .string s, .int .i64 st] w fun e w' => e = .returned (.bool (isPlace g s st)) ∧ Below w.heap.size w w' := by
  have hP : isPlace g s st = (isName g 10 && isName s 4 && isState st) := rfl
  cases h1 : isName g 10
  · rw [h1, Bool.false_and, Bool.false_and] at hP
    rw [hP]
    have HT := fun w => refname_is g 10 false w (by omega) h1
    clear h1 hP
    go_enter Tryd.func31, Tryd.ntmps31
    go_wp2_with (go_at_call 45; refine (HT _).mono ?_; rintro e w1 ⟨rfl, hb1⟩)
    go_ret
    exact ⟨rfl, hb1⟩
  · cases h2 : isName s 4
    · rw [h1, h2, Bool.and_false, Bool.false_and] at hP
      rw [hP]
      have HT := fun w => refname_is g 10 true w (by omega) h1
      have HT2 := fun w => refname_is s 4 false w (by omega) h2
      clear h1 h2 hP
      go_enter Tryd.func31, Tryd.ntmps31
      go_wp2_with fail
      refine (HT _).mono ?_
      rintro e w1 ⟨rfl, hb1⟩
      go_wp2_with fail
      refine (HT2 _).mono ?_
      rintro e w2 ⟨rfl, hb2⟩
      go_wp2
      go_ret
      exact ⟨rfl, below_on hb1 hb2⟩
    · rw [h1, h2, Bool.true_and, Bool.true_and] at hP
      rw [hP]
      have HT := fun w => refname_is g 10 true w (by omega) h1
      have HT2 := fun w => refname_is s 4 true w (by omega) h2
      clear h1 h2 hP
      unfold isState
      by_cases q1 : 0 ≤ st
      · by_cases q2 : st ≤ 2
        all_goals
          go_enter Tryd.func31, Tryd.ntmps31
          go_wp2_with fail
          refine (HT _).mono ?_
          rintro e w1 ⟨rfl, hb1⟩
          go_wp2_with fail
          refine (HT2 _).mono ?_
          rintro e w2 ⟨rfl, hb2⟩
          go_wp2
          go_ret
          exact ⟨ret_bool (by simp [q1, q2]), below_on hb1 hb2⟩
      · go_enter Tryd.func31, Tryd.ntmps31
        go_wp2_with fail
        refine (HT _).mono ?_
        rintro e w1 ⟨rfl, hb1⟩
        go_wp2_with fail
        refine (HT2 _).mono ?_
        rintro e w2 ⟨rfl, hb2⟩
        go_wp2
        go_ret
        exact ⟨ret_bool (by simp; omega), below_on hb1 hb2⟩
set_option maxRecDepth 100000 in
theorem lawgood_any (g s : ByteArray) (st : Int) (w : World) :
    Calls Tryd.prog 29 #[.agg #[.string g, .string s, .int .i64 st]] w fun e w' => e = .returned (.bool (isPlace g s st)) ∧ Below w.heap.size w w' := by
  go_enter Tryd.func29, Tryd.ntmps29
  go_wp2_with (go_at_call 31; refine (refgood_any _ _ _ _).mono ?_; rintro e w1 ⟨rfl, hb1⟩)
  go_ret
  exact ⟨rfl, below_on (below_al (Below.refl _ _) _) hb1⟩
theorem lawgood_is (g s : ByteArray) (st : Int) (b : Bool) (w : World) (h : isPlace g s st = b) :
    Calls Tryd.prog 29 #[.agg #[.string g, .string s, .int .i64 st]] w fun e w' => e = .returned (.bool b) ∧ Below w.heap.size w w' := h ▸ lawgood_any g s st w
end Go.Proofs.YtjjlfkbgieloeaaDoor
