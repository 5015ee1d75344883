/- The contracts of the reference's name and Good, and of the law's good. Conditions: none. -/
import Derived.Test.YtjjlfkbgieloeaaDoorPlace
namespace Go.Proofs.YtjjlfkbgieloeaaDoor
open Go.RowKit Go.PlainAid
def sgnN (n : Nat) : Bool := decide (65 ≤ n) && decide (n ≤ 90) || decide (48 ≤ n) && decide (n ≤ 57) || n == 45
theorem sgnN_yes {n : Nat} (h : (65 ≤ (n : Int) ∧ (n : Int) ≤ 90) ∨ (48 ≤ (n : Int) ∧ (n : Int) ≤ 57) ∨ (n : Int) = 45) : sgnN n = true := by
  unfold sgnN
  simp
  omega
theorem sgnN_no {n : Nat} (h : ¬ ((65 ≤ (n : Int) ∧ (n : Int) ≤ 90) ∨ (48 ≤ (n : Int) ∧ (n : Int) ≤ 57) ∨ (n : Int) = 45)) : sgnN n = false := by
  unfold sgnN
  rw [Bool.eq_false_iff]
  simp
  omega
def allTo (s : ByteArray) (i : Nat) : Bool := (s.data.toList.take i).all sgn
theorem sgn_at (s : ByteArray) (i : Nat) (h : i < s.size) : ∃ b, s.data.toList[i]? = some b ∧ sgn b = sgnN (bn s i) := by
  have h3 : i < s.data.size := h
  refine ⟨s.data[i], by simp, ?_⟩
  rw [bn_data]
  unfold Array.getD
  rw [dif_pos h3]
  rfl
theorem allTo_next (s : ByteArray) (i : Nat) (h : i < s.size) : allTo s (i + 1) = (allTo s i && sgnN (bn s i)) := by
  obtain ⟨b, h1, h2⟩ := sgn_at s i h
  unfold allTo
  rw [List.take_add_one, h1, List.all_append, ← h2]
  simp
theorem allTo_all (s : ByteArray) : allTo s s.size = s.data.toList.all sgn := by
  unfold allTo
  rw [List.take_of_length_le (show s.data.toList.length ≤ s.size from Nat.le_refl _)]
theorem no_name (s : ByteArray) (most i : Nat) (h : i < s.size) (hn : sgnN (bn s i) = false) : isName s most = false := by
  obtain ⟨b, h1, h2⟩ := sgn_at s i h
  rw [hn] at h2
  unfold isName
  rw [Bool.and_eq_false_iff]
  right
  rw [List.all_eq_false]
  exact ⟨b, List.mem_of_getElem? h1, by simp [h2]⟩
structure NameInv (w : World) (s : ByteArray) (v : Value) (k : Nat) (wr : World) : Prop where
  v : v = .int .i64 ((s.size - k : Nat) : Int)
  le : k ≤ s.size
  all : allTo s (s.size - k) = true
  same : wr = w
set_option maxRecDepth 100000 in
set_option maxHeartbeats 4000000 in
theorem refname_any (s : ByteArray) (most : Nat) (w : World) (hm : most < 100) :
    Calls Tryd.prog 45 #[.string s, .int .i64 most] w fun e w' => e = .returned (.bool (isName s most)) ∧ Below w.heap.size w w' := by
  have hbt := get_bt s
  by_cases h0 : s.size = 0
  · have e : isName s most = false := by unfold isName; rw [decide_eq_false (by omega), Bool.false_and, Bool.false_and]
    rw [e]
    clear e
    go_enter Tryd.func45, Tryd.ntmps45
    go_wp2
    go_ret
    exact ⟨rfl, Below.refl _ _⟩
  · by_cases h1 : s.size ≤ most
    · have hnm : isName s most = s.data.toList.all sgn := by unfold isName; rw [decide_eq_true (show 0 < s.size by omega), decide_eq_true h1, Bool.true_and, Bool.true_and]
      have HNM := Lib.hid hnm
      clear hnm
      have hz : ((s.size : Int) == 0) = false := beq_eq_false_iff_ne.2 (by omega)
      have h1b : ¬ most < s.size := by omega
      go_enter Tryd.func45, Tryd.ntmps45
      go_wp2_with fail
      go_loopg [5] s.size (fun k v wr => NameInv w s v k wr)
      case atStart => exact ⟨by simp, Nat.le_refl _, by rw [Nat.sub_self]; rfl, rfl⟩
      case round =>
        obtain ⟨rfl, hle, hall, rfl⟩ := hrel
        cases gk with
        | zero =>
          rw [Nat.sub_zero, allTo_all, ← HNM.out] at hall
          have HA := Lib.hid hall
          clear hall hle
          rw [Nat.sub_zero]
          go_wp2
          go_ret
          exact ⟨ret_bool HA.out.symm, Below.refl _ _⟩
        | succ k =>
          obtain ⟨i, hi⟩ : ∃ i : Nat, s.size - (k + 1) = i := ⟨_, rfl⟩
          rw [hi] at hall ⊢
          have hi8 : i < s.size := by omega
          have hpn := allTo_next s i hi8
          rw [hall, Bool.true_and] at hpn
          have HPN := Lib.hid hpn
          have HK := Lib.hid (And.intro hi hle)
          have HI := Lib.hid hi8
          have EB := Lib.hid (bt_bn s i)
          clear hpn hall hi hle
          rcases (by omega : (65 ≤ bt s i ∧ bt s i ≤ 90) ∨ (65 ≤ bt s i ∧ ¬ bt s i ≤ 90) ∨ (¬ 65 ≤ bt s i ∧ 48 ≤ bt s i ∧ bt s i ≤ 57) ∨ (¬ 65 ≤ bt s i ∧ 48 ≤ bt s i ∧ ¬ bt s i ≤ 57) ∨ (¬ 65 ≤ bt s i ∧ ¬ 48 ≤ bt s i ∧ bt s i = 45) ∨ (¬ 65 ≤ bt s i ∧ ¬ 48 ≤ bt s i ∧ ¬ bt s i = 45)) with ⟨q1, q2⟩ | ⟨q1, q2⟩ | ⟨q1, q2, q3⟩ | ⟨q1, q2, q3⟩ | ⟨q1, q2, q3⟩ | ⟨q1, q2, q3⟩
          · have HY := Lib.hid (sgnN_yes (n := bn s i) (by rw [← EB.out]; omega))
            go_wp2
            go_roundg k
            case measure => omega
            case rel =>
              have hk : s.size - k = i + 1 := by have := HK.out; omega
              exact ⟨by rw [hk]; simp, by have := HK.out; omega, by rw [hk, HPN.out, HY.out], rfl⟩
          · have q4 : ¬ bt s i ≤ 57 := by omega
            have q5 : (bt s i == 45) = false := by simp; omega
            have q6 : 48 ≤ bt s i := by omega
            have HY := Lib.hid (sgnN_no (n := bn s i) (by rw [← EB.out]; omega))
            go_wp2
            go_ret
            exact ⟨ret_bool (no_name s most i HI.out HY.out).symm, Below.refl _ _⟩
          · have HY := Lib.hid (sgnN_yes (n := bn s i) (by rw [← EB.out]; omega))
            go_wp2
            go_roundg k
            case measure => omega
            case rel =>
              have hk : s.size - k = i + 1 := by have := HK.out; omega
              exact ⟨by rw [hk]; simp, by have := HK.out; omega, by rw [hk, HPN.out, HY.out], rfl⟩
          · have q5 : (bt s i == 45) = false := by simp; omega
            have HY := Lib.hid (sgnN_no (n := bn s i) (by rw [← EB.out]; omega))
            go_wp2
            go_ret
            exact ⟨ret_bool (no_name s most i HI.out HY.out).symm, Below.refl _ _⟩
          · have HY := Lib.hid (sgnN_yes (n := bn s i) (by rw [← EB.out]; omega))
            go_wp2
            go_roundg k
            case measure => omega
            case rel =>
              have hk : s.size - k = i + 1 := by have := HK.out; omega
              exact ⟨by rw [hk]; simp, by have := HK.out; omega, by rw [hk, HPN.out, HY.out], rfl⟩
          · have q5 : (bt s i == 45) = false := by simpa using q3
            have HY := Lib.hid (sgnN_no (n := bn s i) (by rw [← EB.out]; omega))
            go_wp2
            go_ret
            exact ⟨ret_bool (no_name s most i HI.out HY.out).symm, Below.refl _ _⟩
    · have e : isName s most = false := by unfold isName; rw [decide_eq_false h1, Bool.and_false, Bool.false_and]
      rw [e]
      clear e
      have hz : ((s.size : Int) == 0) = false := beq_eq_false_iff_ne.2 (by omega)
      have h1b : most < s.size := by omega
      go_enter Tryd.func45, Tryd.ntmps45
      go_wp2
      go_ret
      exact ⟨rfl, Below.refl _ _⟩
end Go.Proofs.YtjjlfkbgieloeaaDoor
