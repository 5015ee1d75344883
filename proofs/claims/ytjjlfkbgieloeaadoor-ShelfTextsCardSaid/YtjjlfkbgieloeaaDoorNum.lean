/- Contracts of package wide's sums and orders. Conditions: numbers of 128 bits. -/
import Derived.Test.YtjjlfkbgieloeaaDoorCarry
import Derived.BigQuiet
import Derived.Deep.QuietTactic
import Derived.WalkSpells
import Derived.WalkLawsBesides
import Derived.Lib.Hide
namespace Go.Proofs.YtjjlfkbgieloeaaDoor
open Go.RowKit
/-- a number's two halves, as the walk's numbers -/
def hi (n : Nat) : Int := (n / 18446744073709551616 : Nat)
def lo (n : Nat) : Int := (n % 18446744073709551616 : Nat)
abbrev A (n : Nat) : Value := .agg #[.int .u64 (hi n), .int .u64 (lo n)]
def M : Nat := 340282366920938463463374607431768211456
theorem below_al {w w1 : World} (h : Below w.heap.size w w1) (o : Obj) : Below w.heap.size w (w1.alloc o) := h.alloc h.size o
theorem below_on {w w1 w2 : World} (h : Below w.heap.size w w1) (k : Below w1.heap.size w1 w2) : Below w.heap.size w w2 := h.trans (k.mono h.size)
theorem drewN_below (w : World) (n : Nat) : Below w.heap.size w (w.drewN n) := ⟨rfl, rfl, rfl, Nat.le_refl _, fun _ _ => rfl⟩
theorem below_drewN {w w1 : World} {n : Nat} (h : Below w.heap.size w w1) : Below w.heap.size w (w1.drewN n) := below_on h (drewN_below w1 n)
theorem below_dr {w w1 : World} (h : Below w.heap.size w w1) : Below w.heap.size w w1.drew := h.drew
theorem below_set {w w1 : World} {n i : Nat} {v : Value} (h : Below w.heap.size w w1) (hn : w.heap.size ≤ n) : Below w.heap.size w (w1.setCell ⟨n, i, none⟩ v) := h.setCell hn v
theorem ret_bool {a b : Bool} (h : a = b) : Ending.returned (.bool a) = .returned (.bool b) := by rw [h]
theorem bcell {W w1 : World} (hb : Below W.heap.size W w1) : (∀ b o, b < W.heap.size → w1.cell? ⟨b, o, none⟩ = W.cell? ⟨b, o, none⟩) ∧ (∀ b o, b < W.heap.size → w1.frozen? ⟨b, o, none⟩ = W.frozen? ⟨b, o, none⟩) :=
  ⟨fun b o h => hb.cell (p := ⟨b, o, none⟩) h, fun b o h => hb.frozen (p := ⟨b, o, none⟩) h⟩
theorem of_any (n : Nat) (w : World) (h : n < 18446744073709551616) :
    Calls Tryd.prog 38 #[.int .u64 n] w fun e w' => e = .returned (A n) ∧ Below w.heap.size w w' := by
  have e1 : hi n = 0 := by unfold hi; omega
  have e2 : lo n = n := by unfold lo; omega
  go_enter Tryd.func38, Tryd.ntmps38
  go_wp2
  exact bodyPost_ret (v := .agg #[.int .u64 0, .int .u64 n]) (by simp [results, Tryd.results38, go_sem]) rfl ⟨by rw [A, e1, e2], (Below.refl _ _).alloc (Nat.le_refl _) _⟩
theorem add_yes (a b : Nat) (w : World) (h : a + b < M) :
    Calls Tryd.prog 23 #[A a, A b] w fun e w' => e = .returned (.tuple #[.agg #[.int .u64 (hi (a + b)), .int .u64 (lo (a + b))], .bool true]) ∧ Below w.heap.size w w' := by
  obtain ⟨l, hl⟩ : ∃ l, lowS (a % 18446744073709551616) (b % 18446744073709551616) 0 = l := ⟨_, rfl⟩
  obtain ⟨c, hc⟩ : ∃ c, carS (a % 18446744073709551616) (b % 18446744073709551616) 0 = c := ⟨_, rfl⟩
  have hc1 : c ≤ 1 := by unfold carS at hc; omega
  obtain ⟨t, ht⟩ : ∃ t, lowS (a / 18446744073709551616) (b / 18446744073709551616) c = t := ⟨_, rfl⟩
  have hz : carS (a / 18446744073709551616) (b / 18446744073709551616) c = 0 := by unfold carS at hc ⊢; unfold M at h; omega
  have hx1 : ∀ w, (callFunc 42 #[.int .u64 (lo a), .int .u64 (lo b), .int .u64 0]).run Tryd.prog w = .ok (.value (.tuple #[.int .u64 l, .int .u64 c])) w := fun w => by
    rw [← hl, ← hc]; exact add64_run _ _ 0 (by omega) w
  have hx2 : ∀ w, (callFunc 42 #[.int .u64 (hi a), .int .u64 (hi b), .int .u64 c]).run Tryd.prog w = .ok (.value (.tuple #[.int .u64 t, .int .u64 0])) w := fun w => by
    have := add64_run (a / 18446744073709551616) (b / 18446744073709551616) c hc1 w
    rw [ht, hz] at this; exact this
  have e1 : hi (a + b) = t := by unfold hi; unfold lowS at ht; unfold carS at hc; unfold M at h; omega
  have e2 : lo (a + b) = l := by unfold lo; unfold lowS at hl; omega
  rw [e1, e2]
  clear e1 e2 hl hc ht hz h hc1
  go_enter Tryd.func23, Tryd.ntmps23
  go_wp2
  exact bodyPost_ret (v := .tuple #[.agg #[.int .u64 t, .int .u64 l], .bool true]) (by simp [results, Tryd.results23, go_sem]) rfl ⟨rfl, by repeat (with_reducible first | exact Below.refl _ _ | assumption | refine below_al ?_ _)⟩
theorem add_no (a b : Nat) (w : World) (ha : a < M) (hb : b < M) (h : M ≤ a + b) :
    Calls Tryd.prog 23 #[A a, A b] w fun e w' => e = .returned (.tuple #[.agg #[.int .u64 0, .int .u64 0], .bool false]) ∧ Below w.heap.size w w' := by
  obtain ⟨l, hl⟩ : ∃ l, lowS (a % 18446744073709551616) (b % 18446744073709551616) 0 = l := ⟨_, rfl⟩
  obtain ⟨c, hc⟩ : ∃ c, carS (a % 18446744073709551616) (b % 18446744073709551616) 0 = c := ⟨_, rfl⟩
  have hc1 : c ≤ 1 := by unfold carS at hc; omega
  obtain ⟨t, ht⟩ : ∃ t, lowS (a / 18446744073709551616) (b / 18446744073709551616) c = t := ⟨_, rfl⟩
  have hz : carS (a / 18446744073709551616) (b / 18446744073709551616) c = 1 := by unfold carS at hc ⊢; unfold M at h ha hb; omega
  have hx1 : ∀ w, (callFunc 42 #[.int .u64 (lo a), .int .u64 (lo b), .int .u64 0]).run Tryd.prog w = .ok (.value (.tuple #[.int .u64 l, .int .u64 c])) w := fun w => by
    rw [← hl, ← hc]; exact add64_run _ _ 0 (by omega) w
  have hx2 : ∀ w, (callFunc 42 #[.int .u64 (hi a), .int .u64 (hi b), .int .u64 c]).run Tryd.prog w = .ok (.value (.tuple #[.int .u64 t, .int .u64 1])) w := fun w => by
    have := add64_run (a / 18446744073709551616) (b / 18446744073709551616) c hc1 w
    rw [ht, hz] at this; exact this
  clear hl hc ht hz ha hb h hc1
  go_enter Tryd.func23, Tryd.ntmps23
  go_wp2
  exact bodyPost_ret (v := .tuple #[.agg #[.int .u64 0, .int .u64 0], .bool false]) (by simp [results, Tryd.results23, go_sem]) rfl ⟨rfl, by repeat (with_reducible first | exact Below.refl _ _ | assumption | refine below_al ?_ _)⟩
/-- -1, 0 or 1 -/
def cmpN (a b : Nat) : Int := if a = b then 0 else if a < b then -1 else 1
theorem ret_i64 {a b : Int} (h : a = b) : Ending.returned (.int .i64 a) = .returned (.int .i64 b) := by rw [h]
theorem compare_raw (ah al bh bl v : Int) (w : World) (h : v = if ah = bh ∧ al = bl then 0 else if ah < bh ∨ ah = bh ∧ al < bl then -1 else 1) :
    Calls Tryd.prog 16 #[.agg #[.int .u64 ah, .int .u64 al], .agg #[.int .u64 bh, .int .u64 bl]] w fun e w' => e = .returned (.int .i64 v) ∧ Below w.heap.size w w' := by
  have HV := Lib.hid h
  clear h
  by_cases e1 : ah = bh
  · subst e1
    by_cases e2 : al = bl
    · subst e2
      go_enter Tryd.func16, Tryd.ntmps16
      go_wp2
      go_ret
      exact ⟨ret_i64 (by rw [HV.out]; simp), by repeat (with_reducible first | exact Below.refl _ _ | assumption | refine below_al ?_ _)⟩
    · have f2 : (al == bl) = false := by simpa using e2
      by_cases e3 : al < bl
      all_goals
        go_enter Tryd.func16, Tryd.ntmps16
        go_wp2
        go_ret
        exact ⟨ret_i64 (by rw [HV.out]; simp [e2, e3]), by repeat (with_reducible first | exact Below.refl _ _ | assumption | refine below_al ?_ _)⟩
  · have f1 : (ah == bh) = false := by simpa using e1
    by_cases e3 : ah < bh
    all_goals
      go_enter Tryd.func16, Tryd.ntmps16
      go_wp2
      go_ret
      exact ⟨ret_i64 (by rw [HV.out]; simp [e1, e3]), by repeat (with_reducible first | exact Below.refl _ _ | assumption | refine below_al ?_ _)⟩
theorem hi_lo (n : Nat) : (n : Int) = hi n * 18446744073709551616 + lo n := by unfold hi lo; omega
theorem lo_bd (n : Nat) : 0 ≤ lo n ∧ lo n < 18446744073709551616 := by unfold lo; omega
theorem cmp_hl (a b : Nat) : cmpN a b = if hi a = hi b ∧ lo a = lo b then 0 else if hi a < hi b ∨ hi a = hi b ∧ lo a < lo b then -1 else 1 := by
  have h1 := hi_lo a
  have h2 := hi_lo b
  have h3 := lo_bd a
  have h4 := lo_bd b
  generalize hi a = ah at *
  generalize hi b = bh at *
  generalize lo a = al at *
  generalize lo b = bl at *
  unfold cmpN
  by_cases e1 : a = b
  · have q : ah = bh ∧ al = bl := by omega
    rw [if_pos e1, if_pos q]
  · have q : ¬ (ah = bh ∧ al = bl) := by omega
    rw [if_neg e1, if_neg q]
    by_cases e2 : a < b
    · have r : ah < bh ∨ ah = bh ∧ al < bl := by omega
      rw [if_pos e2, if_pos r]
    · have r : ¬ (ah < bh ∨ ah = bh ∧ al < bl) := by omega
      rw [if_neg e2, if_neg r]
theorem compare_any (a b : Nat) (w : World) :
    Calls Tryd.prog 16 #[A a, A b] w fun e w' => e = .returned (.int .i64 (cmpN a b)) ∧ Below w.heap.size w w' := compare_raw _ _ _ _ _ w (cmp_hl a b)
theorem less_any (a b : Nat) (w : World) :
    Calls Tryd.prog 17 #[A a, A b] w fun e w' => e = .returned (.bool (decide (a < b))) ∧ Below w.heap.size w w' := by
  have hc : decide (cmpN a b < 0) = decide (a < b) := by
    unfold cmpN
    by_cases e1 : a = b
    · simp [e1]
    · by_cases e2 : a < b <;> simp [e1, e2]
  go_enter Tryd.func17, Tryd.ntmps17
  go_wp2_with (go_at_call 16; refine (compare_any _ _ _).mono ?_; rintro e w1 ⟨rfl, hb1⟩)
  go_ret
  exact ⟨rfl, by repeat (with_reducible first | exact Below.refl _ _ | assumption | refine below_al ?_ _ | (refine below_on ?_ (by assumption)))⟩
theorem less_yes (a b : Nat) (w : World) (h : a < b) :
    Calls Tryd.prog 17 #[A a, A b] w fun e w' => e = .returned (.bool true) ∧ Below w.heap.size w w' := (less_any a b w).mono fun _ _ ⟨he, hw⟩ => ⟨by rw [he, decide_eq_true h], hw⟩
theorem less_no (a b : Nat) (w : World) (h : ¬ a < b) :
    Calls Tryd.prog 17 #[A a, A b] w fun e w' => e = .returned (.bool false) ∧ Below w.heap.size w w' := (less_any a b w).mono fun _ _ ⟨he, hw⟩ => ⟨by rw [he, decide_eq_false h], hw⟩
theorem min_any (a b : Nat) (w : World) :
    Calls Tryd.prog 18 #[A a, A b] w fun e w' => e = .returned (.agg #[.int .u64 (hi (if b < a then b else a)), .int .u64 (lo (if b < a then b else a))]) ∧ Below w.heap.size w w' := by
  by_cases h : b < a
  · rw [if_pos h]
    go_enter Tryd.func18, Tryd.ntmps18
    go_wp2_with (go_at_call 17; refine (less_yes _ _ _ (by assumption)).mono ?_; rintro e w1 ⟨rfl, hb1⟩; obtain ⟨hc, hf⟩ := bcell hb1)
    exact bodyPost_ret (v := .agg #[.int .u64 (hi b), .int .u64 (lo b)]) (by simp [results, Tryd.results18, go_sem, hc]) rfl ⟨rfl, by repeat (with_reducible first | exact Below.refl _ _ | assumption | refine below_al ?_ _ | refine below_set ?_ (by omega) | refine below_drewN ?_ | refine below_dr ?_ | refine below_on ?_ (by assumption))⟩
  · rw [if_neg h]
    go_enter Tryd.func18, Tryd.ntmps18
    go_wp2_with (go_at_call 17; refine (less_no _ _ _ (by assumption)).mono ?_; rintro e w1 ⟨rfl, hb1⟩; obtain ⟨hc, hf⟩ := bcell hb1)
    exact bodyPost_ret (v := .agg #[.int .u64 (hi a), .int .u64 (lo a)]) (by simp [results, Tryd.results18, go_sem, hc]) rfl ⟨rfl, by repeat (with_reducible first | exact Below.refl _ _ | assumption | refine below_al ?_ _ | refine below_set ?_ (by omega) | refine below_drewN ?_ | refine below_dr ?_ | refine below_on ?_ (by assumption))⟩
theorem zero_raw (h l : Int) (w : World) :
    Calls Tryd.prog 19 #[.agg #[.int .u64 h, .int .u64 l]] w fun e w' => e = .returned (.bool (h == 0 && l == 0)) ∧ Below w.heap.size w w' := by
  by_cases e1 : h = 0
  · subst e1
    by_cases e2 : l = 0
    · subst e2
      go_enter Tryd.func19, Tryd.ntmps19
      go_wp2
      go_ret
      exact ⟨rfl, below_al (Below.refl _ _) _⟩
    · have f2 : (l == 0) = false := by simpa using e2
      go_enter Tryd.func19, Tryd.ntmps19
      go_wp2
      go_ret
      exact ⟨ret_bool (by rw [f2]; rfl), below_al (Below.refl _ _) _⟩
  · have f1 : (h == 0) = false := by simpa using e1
    go_enter Tryd.func19, Tryd.ntmps19
    go_wp2
    go_ret
    exact ⟨ret_bool (by rw [f1]; rfl), below_al (Below.refl _ _) _⟩
theorem zero_hl (a : Nat) : (hi a == 0 && lo a == 0) = decide (a = 0) := by
  have h1 := hi_lo a
  have h2 := lo_bd a
  by_cases e : a = 0
  · subst e; rfl
  · have : ¬ (hi a = 0 ∧ lo a = 0) := by omega
    rw [decide_eq_false e, Bool.and_eq_false_iff]
    by_cases f : hi a = 0
    · right; simpa using fun g => this ⟨f, g⟩
    · left; simpa using f
theorem zero_any (a : Nat) (w : World) :
    Calls Tryd.prog 19 #[A a] w fun e w' => e = .returned (.bool (decide (a = 0))) ∧ Below w.heap.size w w' := (zero_raw _ _ w).mono fun _ _ ⟨he, hw⟩ => ⟨by rw [he, zero_hl], hw⟩
theorem sub_no (a b : Nat) (w : World) (h : a < b) :
    Calls Tryd.prog 26 #[A a, A b] w fun e w' => e = .returned (.tuple #[.agg #[.int .u64 0, .int .u64 0], .bool false]) ∧ Below w.heap.size w w' := by
  go_enter Tryd.func26, Tryd.ntmps26
  go_wp2_with (go_at_call 17; refine (less_yes _ _ _ (by assumption)).mono ?_; rintro e w1 ⟨rfl, hb1⟩; obtain ⟨hc, hf⟩ := bcell hb1)
  exact bodyPost_ret (v := .tuple #[.agg #[.int .u64 0, .int .u64 0], .bool false]) (by simp [results, Tryd.results26, go_sem, hc]) rfl ⟨rfl, by repeat (with_reducible first | exact Below.refl _ _ | assumption | refine below_al ?_ _ | refine below_set ?_ (by omega) | refine below_drewN ?_ | refine below_dr ?_ | refine below_on ?_ (by assumption))⟩
theorem sub_yes (a b : Nat) (w : World) (ha : a < M) (h : ¬ a < b) :
    Calls Tryd.prog 26 #[A a, A b] w fun e w' => e = .returned (.tuple #[.agg #[.int .u64 (hi (a - b)), .int .u64 (lo (a - b))], .bool true]) ∧ Below w.heap.size w w' := by
  obtain ⟨l, hl⟩ : ∃ l, lowD (a % 18446744073709551616) (b % 18446744073709551616) 0 = l := ⟨_, rfl⟩
  obtain ⟨c, hc⟩ : ∃ c, carD (a % 18446744073709551616) (b % 18446744073709551616) 0 = c := ⟨_, rfl⟩
  have hc1 : c ≤ 1 := by unfold carD at hc; split at hc <;> omega
  obtain ⟨t, ht⟩ : ∃ t, lowD (a / 18446744073709551616) (b / 18446744073709551616) c = t := ⟨_, rfl⟩
  obtain ⟨d, hd⟩ : ∃ d, carD (a / 18446744073709551616) (b / 18446744073709551616) c = d := ⟨_, rfl⟩
  have hx1 : ∀ w, (callFunc 44 #[.int .u64 (lo a), .int .u64 (lo b), .int .u64 0]).run Tryd.prog w = .ok (.value (.tuple #[.int .u64 l, .int .u64 c])) w := fun w => by
    rw [← hl, ← hc]; exact sub64_run _ _ 0 (by omega) w
  have hx2 : ∀ w, (callFunc 44 #[.int .u64 (hi a), .int .u64 (hi b), .int .u64 c]).run Tryd.prog w = .ok (.value (.tuple #[.int .u64 t, .int .u64 d])) w := fun w => by
    have := sub64_run (a / 18446744073709551616) (b / 18446744073709551616) c hc1 w
    rw [ht, hd] at this; exact this
  have e1 : hi (a - b) = t := by
    unfold hi; unfold lowD at ht; unfold carD at hc; unfold M at ha
    split at hc <;> omega
  have e2 : lo (a - b) = l := by unfold lo; unfold lowD at hl; omega
  rw [e1, e2]
  clear e1 e2 hl hc ht hd ha hc1
  go_enter Tryd.func26, Tryd.ntmps26
  go_wp2_with (go_at_call 17; refine (less_no _ _ _ (by assumption)).mono ?_; rintro e w1 ⟨rfl, hb1⟩; obtain ⟨hc, hf⟩ := bcell hb1)
  exact bodyPost_ret (v := .tuple #[.agg #[.int .u64 t, .int .u64 l], .bool true]) (by simp [results, Tryd.results26, go_sem, hc]) rfl ⟨rfl, by repeat (with_reducible first | exact Below.refl _ _ | assumption | refine below_al ?_ _ | refine below_set ?_ (by omega) | refine below_drewN ?_ | refine below_dr ?_ | refine below_on ?_ (by assumption))⟩
end Go.Proofs.YtjjlfkbgieloeaaDoor
