/- The contracts of shelf.name and shelf.Good. Conditions: none. -/
import Derived.Test.YtjjlfkbgieloeaaDoorParse
namespace Go.Proofs.YtjjlfkbgieloeaaDoor
open Go.RowKit Go.PlainAid
def nameSigns : ByteArray := ⟨#[65, 66, 67, 68, 69, 70, 71, 72, 73, 74, 75, 76, 77, 78, 79, 80, 81, 82, 83, 84, 85, 86, 87, 88, 89, 90, 48, 49, 50, 51, 52, 53, 54, 55, 56, 57, 45]⟩
/-- a sign of a name -/
def sgn (b : UInt8) : Bool := decide (65 ≤ b.toNat) && decide (b.toNat ≤ 90) || decide (48 ≤ b.toNat) && decide (b.toNat ≤ 57) || b.toNat == 45
def isName (s : ByteArray) (most : Nat) : Bool := decide (0 < s.size) && decide (s.size ≤ most) && s.data.toList.all sgn
theorem contains_sgn (b : UInt8) : nameSigns.data.toList.contains b = sgn b := by
  have h : ∀ n : Fin 256, ([65, 66, 67, 68, 69, 70, 71, 72, 73, 74, 75, 76, 77, 78, 79, 80, 81, 82, 83, 84, 85, 86, 87, 88, 89, 90, 48, 49, 50, 51, 52, 53, 54, 55, 56, 57, 45] : List UInt8).contains (UInt8.ofNat n.val) = sgn (UInt8.ofNat n.val) := by decide +kernel
  have := h ⟨b.toNat, b.toNat_lt⟩
  rw [UInt8.ofNat_toNat] at this
  exact this
theorem strim_yes (s : ByteArray) (w : World) (hs : s.size ≤ 9223372036854775807) (h : s.data.toList.all sgn = true) :
    Calls Tryd.prog 50 #[.string s, .string nameSigns] w fun e w' => e = .returned (.string ⟨#[]⟩) ∧ Below w.heap.size w w' := by
  have := Any.strings_Trim_laid Tryd.lays160 (by kernel_rfl) s nameSigns w hs (by decide) (ascii_of_all (by decide))
  rw [trim_all _ _ (fun x hx => by rw [contains_sgn]; exact List.all_eq_true.1 h x hx)] at this
  exact this
theorem strim_no (s : ByteArray) (hs : s.size ≤ 9223372036854775807) (h : ¬ s.data.toList.all sgn = true) :
    ∃ r : ByteArray, r.toList.isEmpty = false ∧ ∀ w, Calls Tryd.prog 50 #[.string s, .string nameSigns] w fun e w' => e = .returned (.string r) ∧ Below w.heap.size w w' := by
  refine ⟨_, ?_, fun w => Any.strings_Trim_laid Tryd.lays160 (by kernel_rfl) s nameSigns w hs (by decide) (ascii_of_all (by decide))⟩
  refine isEmpty_no _ ?_
  rcases Nat.eq_zero_or_pos (⟨(Lib.trimS s.data.toList nameSigns.data.toList).toArray⟩ : ByteArray).size with h0 | h0
  · exfalso
    have h1 : Lib.trimS s.data.toList nameSigns.data.toList = [] := by
      have h2 : (Lib.trimS s.data.toList nameSigns.data.toList).toArray.size = 0 := h0
      exact List.eq_nil_of_length_eq_zero (by simpa using h2)
    refine h (List.all_eq_true.2 fun x hx => ?_)
    rw [← contains_sgn]
    exact trim_some _ _ h1 x hx
  · exact h0
set_option maxRecDepth 100000 in
theorem name_any (s : ByteArray) (most : Nat) (w : World) (hs : s.size ≤ 9223372036854775807) :
    Calls Tryd.prog 46 #[.string s, .int .i64 most] w fun e w' => e = .returned (.bool (isName s most)) ∧ Below w.heap.size w w' := by
  by_cases h0 : 0 < s.size
  · have he := isEmpty_no s h0
    by_cases h1 : s.size ≤ most
    · by_cases h2 : s.data.toList.all sgn = true
      · have e : isName s most = true := by unfold isName; rw [decide_eq_true h0, decide_eq_true h1, h2]; rfl
        rw [e]
        have HT := fun w => strim_yes s w hs h2
        clear h2 e
        go_enter Tryd.func46, Tryd.ntmps46
        go_wp2_with (go_at_call 50; refine (HT _).mono ?_; rintro e w1 ⟨rfl, hb1⟩)
        go_ret
        exact ⟨rfl, by repeat (with_reducible first | exact Below.refl _ _ | assumption | refine below_dr ?_ | refine below_on ?_ (by assumption))⟩
      · have e : isName s most = false := by unfold isName; rw [Bool.eq_false_iff.2 h2, Bool.and_false]
        rw [e]
        obtain ⟨r, hr, HT⟩ := strim_no s hs h2
        clear h2 e
        go_enter Tryd.func46, Tryd.ntmps46
        go_wp2_with (go_at_call 50; refine (HT _).mono ?_; rintro e w1 ⟨rfl, hb1⟩)
        go_ret
        exact ⟨rfl, by repeat (with_reducible first | exact Below.refl _ _ | assumption | refine below_dr ?_ | refine below_on ?_ (by assumption))⟩
    · have e : isName s most = false := by unfold isName; rw [decide_eq_false h1, Bool.and_false, Bool.false_and]
      rw [e]
      clear e
      go_enter Tryd.func46, Tryd.ntmps46
      go_wp2
      go_ret
      exact ⟨rfl, by repeat (with_reducible first | exact Below.refl _ _ | assumption | refine below_dr ?_)⟩
  · have e : isName s most = false := by unfold isName; rw [decide_eq_false h0, Bool.false_and, Bool.false_and]
    rw [e]
    have e2 : s = ⟨#[]⟩ := by
      apply ByteArray.ext
      exact Array.eq_empty_of_size_eq_zero (show s.size = 0 by omega)
    subst e2
    clear e
    go_enter Tryd.func46, Tryd.ntmps46
    go_wp2
    go_ret
    exact ⟨rfl, by repeat (with_reducible first | exact Below.refl _ _ | assumption | refine below_dr ?_)⟩
end Go.Proofs.YtjjlfkbgieloeaaDoor
