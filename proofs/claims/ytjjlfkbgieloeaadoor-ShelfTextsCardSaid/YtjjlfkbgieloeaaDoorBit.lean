/- Contracts of the reference's Bit and Less. Conditions: numbers of 128 bits. -/
import Derived.Test.YtjjlfkbgieloeaaDoorNum
import Derived.Test.YtjjlfkbgieloeaaDoorKit
import Derived.Deep.RegionHeld3
import Derived.Deep.LoopGhost
namespace Go.Proofs.YtjjlfkbgieloeaaDoor
open Go.RowKit
def bitI (a i : Nat) : Int := (a / 2 ^ i % 2 : Nat)
theorem bitI_cases (a i : Nat) : bitI a i = 0 ∨ bitI a i = 1 := by unfold bitI; omega
theorem wrap_bit (x : Nat) : wrap64 ((x : Int).tmod 2) = ((x % 2 : Nat) : Int) := by
  rw [Int.tmod_eq_emod_of_nonneg (by omega)]
  unfold wrap64
  omega
theorem bit_hi_eq (a i : Nat) (h : 64 ≤ i) : wrap64 ((hi a / 2 ^ (i - 64)).tmod 2) = bitI a i := by
  have e : hi a / 2 ^ (i - 64) = ((a / 2 ^ i : Nat) : Int) := by
    unfold hi
    have : 2 ^ i = 18446744073709551616 * 2 ^ (i - 64) := by
      rw [show (18446744073709551616 : Nat) = 2 ^ 64 by rfl, ← Nat.pow_add]
      congr 1
      omega
    rw [this, ← Nat.div_div_eq_div_mul]
    simp
  rw [e, wrap_bit]
  rfl
theorem bit_lo_eq (a i : Nat) (h : i < 64) : wrap64 ((lo a / 2 ^ i).tmod 2) = bitI a i := by
  have e : lo a / 2 ^ i = ((a % 18446744073709551616 / 2 ^ i : Nat) : Int) := by
    unfold lo
    simp
  rw [e, wrap_bit]
  unfold bitI
  congr 1
  have h1 := Nat.toNat_testBit (a % 2 ^ 64) i
  have h2 := Nat.toNat_testBit a i
  rw [Nat.testBit_mod_two_pow, decide_eq_true h, Bool.true_and, h2] at h1
  rw [show (18446744073709551616 : Nat) = 2 ^ 64 by rfl]
  omega
theorem bit_any (a i : Nat) (w : World) (h2 : i < 128) :
    Calls Tryd.prog 41 #[A a, .int .i64 i] w fun e w' => e = .returned (.int .i64 (bitI a i)) ∧ w.alloc (.cells #[.int .u64 (hi a), .int .u64 (lo a)] 24) = w' := by
  by_cases h : 64 ≤ i
  · go_enter Tryd.func41, Tryd.ntmps41
    go_wp2
    go_ret
    exact ⟨ret_i64 (bit_hi_eq a i h), rfl⟩
  · have h' : i < 64 := by omega
    go_enter Tryd.func41, Tryd.ntmps41
    go_wp2
    go_ret
    exact ⟨ret_i64 (bit_lo_eq a i h'), rfl⟩
/-- two numbers' comparison, by their highest unlike bit -/
theorem bit_split (a i : Nat) : a / 2 ^ i = 2 * (a / 2 ^ (i + 1)) + a / 2 ^ i % 2 := by
  rw [Nat.pow_succ, ← Nat.div_div_eq_div_mul]
  omega
theorem less_at (a b n : Nat) (hs : a / 2 ^ (n + 1) = b / 2 ^ (n + 1)) (h1 : a / 2 ^ n = 2 * (a / 2 ^ (n + 1)) + a / 2 ^ n % 2) (h2 : b / 2 ^ n = 2 * (b / 2 ^ (n + 1)) + b / 2 ^ n % 2) (h3 : ¬ bitI a n = bitI b n) : decide (bitI a n < bitI b n) = decide (a < b) := by
  have h4 : (bitI a n < bitI b n) ↔ a / 2 ^ n < b / 2 ^ n := by unfold bitI at *; omega
  have h5 : a / 2 ^ n ≠ b / 2 ^ n := by unfold bitI at h3; omega
  rw [decide_eq_decide, h4]
  have hp : 0 < 2 ^ n := Nat.pow_pos (by omega)
  constructor
  · intro h
    rcases Nat.lt_or_ge a b with h6 | h6
    · exact h6
    · have := Nat.div_le_div_right (c := 2 ^ n) h6
      omega
  · intro h
    have := Nat.div_le_div_right (c := 2 ^ n) (Nat.le_of_lt h)
    omega
theorem cell_of0 {w : World} {g : Nat} {x y : Int} (h : Blk w g 24 #[.int .u64 x, .int .u64 y]) : w.cell? ⟨g, 0, none⟩ = some (.int .u64 x) := h.cell 0
theorem cell_of1 {w : World} {g : Nat} {x y : Int} (h : Blk w g 24 #[.int .u64 x, .int .u64 y]) : w.cell? ⟨g, 1, none⟩ = some (.int .u64 y) := h.cell 1
structure LessInv (w : World) (a b : Nat) (v : Value) (k : Nat) (wr : World) : Prop where
  v : v = .int .i64 ((k : Int) - 1)
  le : k ≤ 128
  same : a / 2 ^ k = b / 2 ^ k
  one : Blk wr w.heap.size 24 #[.int .u64 (hi a), .int .u64 (lo a)]
  two : Blk wr (w.heap.size + 1) 24 #[.int .u64 (hi b), .int .u64 (lo b)]
  bel : Below w.heap.size w wr
theorem two_new (w : World) (a b : Nat) : Blk ((w.alloc (.cells #[.int .u64 (hi a), .int .u64 (lo a)] 24)).alloc (.cells #[.int .u64 (hi b), .int .u64 (lo b)] 24)) w.heap.size 24 #[.int .u64 (hi a), .int .u64 (lo a)] ∧
    Blk ((w.alloc (.cells #[.int .u64 (hi a), .int .u64 (lo a)] 24)).alloc (.cells #[.int .u64 (hi b), .int .u64 (lo b)] 24)) (w.heap.size + 1) 24 #[.int .u64 (hi b), .int .u64 (lo b)] := by
  refine ⟨(Blk.new w 24 _).alloc _, ?_⟩
  have := Blk.new (w.alloc (.cells #[.int .u64 (hi a), .int .u64 (lo a)] 24)) 24 #[.int .u64 (hi b), .int .u64 (lo b)]
  simpa using this
set_option maxHeartbeats 2000000 in
theorem ref_less (a b : Nat) (w : World) (ha : a < M) (hb : b < M) :
    Calls Tryd.prog 15 #[A a, A b] w fun e w' => e = .returned (.bool (decide (a < b))) ∧ Below w.heap.size w w' := by
  have HA := Lib.hid ha
  have HB := Lib.hid hb
  clear ha hb
  go_enter Tryd.func15, Tryd.ntmps15
  go_wp2
  go_loopg [5] 128 (fun k v wr => LessInv w a b v k wr)
  case atStart =>
    refine ⟨rfl, by omega, ?_, (two_new w a b).1, (two_new w a b).2, below_al (below_al (Below.refl _ _) _) _⟩
    have := HA.out; have := HB.out
    unfold M at *
    rw [Nat.div_eq_of_lt (by omega), Nat.div_eq_of_lt (by omega)]
  case round =>
    obtain ⟨rfl, hle, hsame, hone, htwo, hbel⟩ := hrel
    have c0 := hone.cell 0
    have c1 := hone.cell 1
    have c2 := htwo.cell 0
    have c3 := htwo.cell 1
    have l0 := hone.lt
    have l1 := htwo.lt
    have hi1 := Lib.hid hone
    have hi2 := Lib.hid htwo
    have hi3 := Lib.hid hbel
    have hi4 := Lib.hid hsame
    clear hone htwo hbel hsame
    cases gk with
    | zero =>
      go_wp2
      go_ret
      exact ⟨ret_bool (by have := hi4.out; simp at this; simp [this]), hi3.out⟩
    | succ k =>
      obtain ⟨n, hn⟩ : ∃ n : Nat, ((k + 1 : Nat) : Int) - 1 = n := ⟨k, by omega⟩
      have hk : n = k := by omega
      have hk2 : n < 128 := by omega
      rw [hn]
      clear hn
      have HN := Lib.hid hk
      clear hk hle
      have hr := bit_split a n
      have hr2 := bit_split b n
      have hn2 : n + 1 = k + 1 := by rw [HN.out]
      have HR := Lib.hid hr
      have HR2 := Lib.hid hr2
      have HN2 := Lib.hid hn2
      clear hr hr2 hn2
      by_cases hq : bitI a n = bitI b n
      · have HQ := Lib.hid hq
        have hq1 : (bitI a n != bitI b n) = false := by rw [hq]; simp
        clear hq
        go_wp2_with fail
        go_region_held3 (fun w' => w'.cell? ⟨w.heap.size, 0, none⟩ = some (.int .u64 (hi a)) ∧ w'.cell? ⟨w.heap.size, 1, none⟩ = some (.int .u64 (lo a)) ∧ w'.cell? ⟨w.heap.size + 1, 0, none⟩ = some (.int .u64 (hi b)) ∧ w'.cell? ⟨w.heap.size + 1, 1, none⟩ = some (.int .u64 (lo b)) ∧ w.heap.size < w'.heap.size ∧ w.heap.size + 1 < w'.heap.size) (((try dsimp only); (repeat' apply And.intro) <;> (first | exact cell_of0 (by repeat (with_reducible first | exact hi1.out | exact hi2.out | apply Blk.drew | apply Blk.alloc)) | exact cell_of1 (by repeat (with_reducible first | exact hi1.out | exact hi2.out | apply Blk.drew | apply Blk.alloc)) | (simp; done) | (simp; omega)))) (first | (go_at_call 41; (with_reducible refine (bit_any a n _ hk2).mono ?_); rintro e w1 ⟨rfl, rfl⟩) | (go_at_call 41; (with_reducible refine (bit_any b n _ hk2).mono ?_); rintro e w1 ⟨rfl, rfl⟩))
        go_wp2
        go_roundg n
        case measure => have := HN2.out; omega
        case rel =>
          have hs := hi4.out
          rw [← HN2.out] at hs
          have h1 := HR.out
          have h2 := HR2.out
          have h3 := HQ.out
          unfold bitI at h3
          refine ⟨rfl, by omega, by omega, ((hi1.out.alloc _).alloc _), ((hi2.out.alloc _).alloc _), ?_⟩
          have hi5 := hi3.out
          repeat (with_reducible first | exact Below.refl _ _ | assumption | refine below_al ?_ _ | refine below_set ?_ (by omega) | refine below_drewN ?_ | refine below_dr ?_ | refine below_on ?_ (by assumption))
      · have HQ := Lib.hid hq
        have hq1 : (bitI a n != bitI b n) = true := by simpa using hq
        clear hq
        go_wp2_with fail
        go_region_held3 (fun w' => w'.cell? ⟨w.heap.size, 0, none⟩ = some (.int .u64 (hi a)) ∧ w'.cell? ⟨w.heap.size, 1, none⟩ = some (.int .u64 (lo a)) ∧ w'.cell? ⟨w.heap.size + 1, 0, none⟩ = some (.int .u64 (hi b)) ∧ w'.cell? ⟨w.heap.size + 1, 1, none⟩ = some (.int .u64 (lo b)) ∧ w.heap.size < w'.heap.size ∧ w.heap.size + 1 < w'.heap.size) (((try dsimp only); (repeat' apply And.intro) <;> (first | exact cell_of0 (by repeat (with_reducible first | exact hi1.out | exact hi2.out | apply Blk.drew | apply Blk.alloc)) | exact cell_of1 (by repeat (with_reducible first | exact hi1.out | exact hi2.out | apply Blk.drew | apply Blk.alloc)) | (simp; done) | (simp; omega)))) (first | (go_at_call 41; (with_reducible refine (bit_any a n _ hk2).mono ?_); rintro e w1 ⟨rfl, rfl⟩) | (go_at_call 41; (with_reducible refine (bit_any b n _ hk2).mono ?_); rintro e w1 ⟨rfl, rfl⟩))
        go_wp2_with fail
        go_region_held3 (fun w' => w'.cell? ⟨w.heap.size, 0, none⟩ = some (.int .u64 (hi a)) ∧ w'.cell? ⟨w.heap.size, 1, none⟩ = some (.int .u64 (lo a)) ∧ w'.cell? ⟨w.heap.size + 1, 0, none⟩ = some (.int .u64 (hi b)) ∧ w'.cell? ⟨w.heap.size + 1, 1, none⟩ = some (.int .u64 (lo b)) ∧ w.heap.size < w'.heap.size ∧ w.heap.size + 1 < w'.heap.size) (((try dsimp only); (repeat' apply And.intro) <;> (first | exact cell_of0 (by repeat (with_reducible first | exact hi1.out | exact hi2.out | apply Blk.drew | apply Blk.alloc)) | exact cell_of1 (by repeat (with_reducible first | exact hi1.out | exact hi2.out | apply Blk.drew | apply Blk.alloc)) | (simp; done) | (simp; omega)))) (first | (go_at_call 41; (with_reducible refine (bit_any a n _ hk2).mono ?_); rintro e w1 ⟨rfl, rfl⟩) | (go_at_call 41; (with_reducible refine (bit_any b n _ hk2).mono ?_); rintro e w1 ⟨rfl, rfl⟩))
        go_wp2
        go_ret
        have hs := hi4.out
        rw [← HN2.out] at hs
        have h1 := HR.out
        have h2 := HR2.out
        have h3 := HQ.out
        have h4 := less_at a b n hs h1 h2 h3
        have hi5 := hi3.out
        refine ⟨ret_bool h4, ?_⟩
        repeat (with_reducible first | exact Below.refl _ _ | assumption | refine below_al ?_ _ | refine below_set ?_ (by omega) | refine below_drewN ?_ | refine below_dr ?_ | refine below_on ?_ (by assumption))
end Go.Proofs.YtjjlfkbgieloeaaDoor
