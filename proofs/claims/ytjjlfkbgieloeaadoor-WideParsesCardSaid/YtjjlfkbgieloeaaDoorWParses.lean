/- The walk of the law WideParses. Conditions: those of its row. -/
import Derived.Test.YtjjlfkbgieloeaaDoorWShows
import Derived.Test.YtjjlfkbgieloeaaDoorDec2
namespace Go.Proofs.YtjjlfkbgieloeaaDoor
open Go.RowKit Go.PlainAid
set_option linter.unusedVariables false
/-- what the loop has found -/
def par (s : ByteArray) (b : Bool) (i : Nat) : Bool := b && (s.data.toList.take i).all dig
theorem par_end (s : ByteArray) (b : Bool) : par s b s.size = (b && s.data.toList.all dig) := by
  unfold par
  rw [List.take_of_length_le (show s.data.toList.length ≤ s.size from Nat.le_refl _)]
theorem par_false (s : ByteArray) (i : Nat) : par s false i = false := rfl
theorem par_next (s : ByteArray) (b : Bool) (i : Nat) (h : i < s.size) : par s b (i + 1) = (par s b i && (decide (48 ≤ bn s i) && decide (bn s i ≤ 57))) := by
  unfold par
  have h2 : i < s.data.toList.length := h
  have h3 : i < s.data.size := h
  rw [List.take_succ_eq_append_getElem h2, List.all_append, ← Bool.and_assoc]
  congr 1
  rw [bn_data]
  unfold Array.getD
  rw [dif_pos h3]
  simp [dig]
theorem not_nought (s : ByteArray) (h : 1 < s.size) : (s.toList == [48]) = false := by
  rw [Lib.toList_data, beq_eq_false_iff_ne]
  intro e
  have h2 : s.data.toList.length = s.size := rfl
  rw [e] at h2
  simp at h2
  omega
structure ParInv (w : World) (s : ByteArray) (g : Nat) (b : Bool) (v5 v6 : Value) (k : Nat) (wr : World) : Prop where
  v5 : v5 = .bool (par s b (s.size - k))
  v6 : v6 = .int .i64 ((s.size - k : Nat) : Int)
  le : k ≤ s.size
  blk : Blk wr g 24 #[.int .u64 0, .int .u64 0]
  bel : Below w.heap.size w wr
set_option maxHeartbeats 4000000 in
set_option maxRecDepth 100000 in
theorem parses_f1 (s : ByteArray) (w : World) (hm : MostIs w) (h100 : ¬ 100 < s.size) (HP : ∀ w, Calls Tryd.prog 36 #[.string s] w (ErrPost w)) (hz : s.size = 0) :
    Calls Tryd.prog 12 #[.string s] w fun e w' => e = .returned (.bool true) ∧ Below w.heap.size w w' := by
  have hbt := get_bt s
  go_enter Tryd.func12, Tryd.ntmps12
  go_wp2_with fail
  refine (alive_true _ hm).mono ?_
  rintro e w1 ⟨rfl, hb1⟩
  go_wp2_with fail
  refine (HP _).mono ?_
  rintro e w2 ⟨rfl, hb2⟩
  have HB2 := Lib.hid (And.intro (Blk.new w2 24 #[.int .u64 0, .int .u64 0]) (below_al (below_on hb1 hb2) (.cells #[.int .u64 0, .int .u64 0] 24)))
  clear hb1 hb2
  go_wp2_with fail
  generalize w2.heap.size = g at *
  go_loopg [5, 6] s.size (fun k v5 v6 wr => ParInv w s g false v5 v6 k wr)
  case atStart => exact ⟨by rw [par_false], by simp, Nat.le_refl _, HB2.out.1, HB2.out.2⟩
  case round =>
    obtain ⟨rfl, rfl, hle, hblk, hbel⟩ := hrel
    cases gk with
    | zero =>
      rw [Nat.sub_zero, par_end]
      have c0 := cell_of0 hblk
      have c1 := cell_of1 hblk
      have l0 := hblk.lt
      have HH := Lib.hid hbel
      clear hblk hbel hle
      rw [Bool.false_and]
      go_wp2
      go_ret
      exact ⟨rfl, HH.out⟩
    | succ k =>
      exfalso
      omega
set_option maxHeartbeats 4000000 in
set_option maxRecDepth 100000 in
theorem parses_f2 (s : ByteArray) (w : World) (hm : MostIs w) (h100 : ¬ 100 < s.size) (HP : ∀ w, Calls Tryd.prog 36 #[.string s] w (ErrPost w)) (hc : 0 < s.size) (h39 : ¬ s.size < 39) :
    Calls Tryd.prog 12 #[.string s] w fun e w' => e = .returned (.bool true) ∧ Below w.heap.size w w' := by
  have hbt := get_bt s
  go_enter Tryd.func12, Tryd.ntmps12
  go_wp2_with fail
  refine (alive_true _ hm).mono ?_
  rintro e w1 ⟨rfl, hb1⟩
  go_wp2_with fail
  refine (HP _).mono ?_
  rintro e w2 ⟨rfl, hb2⟩
  have HB2 := Lib.hid (And.intro (Blk.new w2 24 #[.int .u64 0, .int .u64 0]) (below_al (below_on hb1 hb2) (.cells #[.int .u64 0, .int .u64 0] 24)))
  clear hb1 hb2
  go_wp2_with fail
  generalize w2.heap.size = g at *
  go_loopg [5, 6] s.size (fun k v5 v6 wr => ParInv w s g false v5 v6 k wr)
  case atStart => exact ⟨by rw [par_false], by simp, Nat.le_refl _, HB2.out.1, HB2.out.2⟩
  case round =>
    obtain ⟨rfl, rfl, hle, hblk, hbel⟩ := hrel
    cases gk with
    | zero =>
      rw [Nat.sub_zero, par_end]
      have c0 := cell_of0 hblk
      have c1 := cell_of1 hblk
      have l0 := hblk.lt
      have HH := Lib.hid hbel
      clear hblk hbel hle
      rw [Bool.false_and]
      go_wp2
      go_ret
      exact ⟨rfl, HH.out⟩
    | succ k =>
      obtain ⟨i, hi⟩ : ∃ i : Nat, s.size - (k + 1) = i := ⟨_, rfl⟩
      rw [hi]
      have hi8 : i < s.size := by omega
      have HK := Lib.hid (And.intro hi hle)
      have HH := Lib.hid (And.intro hblk hbel)
      have hpn := par_next s false i hi8
      clear hi hle hblk hbel
      cases hp : par s false i
      · rw [hp, Bool.false_and] at hpn
        have HPN := Lib.hid hpn
        clear hpn hp
        go_wp2
        go_roundg k
        case measure => omega
        case rel =>
          have hk : s.size - k = i + 1 := by have := HK.out; omega
          exact ⟨by rw [hk, HPN.out], by rw [hk]; simp, by have := HK.out; omega, HH.out.1, HH.out.2⟩
      · rw [hp, Bool.true_and] at hpn
        have e2 := bt_bn s i
        by_cases q1 : 48 ≤ bn s i
        · by_cases q2 : bn s i ≤ 57
          · rw [decide_eq_true q1, decide_eq_true q2] at hpn
            have g1 : 48 ≤ bt s i := by rw [e2]; omega
            have g2 : bt s i ≤ 57 := by rw [e2]; omega
            have HPN := Lib.hid hpn
            clear hpn hp e2 q1 q2
            go_wp2
            go_roundg k
            case measure => omega
            case rel =>
              have hk : s.size - k = i + 1 := by have := HK.out; omega
              exact ⟨by rw [hk, HPN.out]; rfl, by rw [hk]; simp, by have := HK.out; omega, HH.out.1, HH.out.2⟩
          · rw [decide_eq_true q1, decide_eq_false q2] at hpn
            have g1 : 48 ≤ bt s i := by rw [e2]; omega
            have g2 : ¬ bt s i ≤ 57 := by rw [e2]; omega
            have HPN := Lib.hid hpn
            clear hpn hp e2 q1 q2
            go_wp2
            go_roundg k
            case measure => omega
            case rel =>
              have hk : s.size - k = i + 1 := by have := HK.out; omega
              exact ⟨by rw [hk, HPN.out]; rfl, by rw [hk]; simp, by have := HK.out; omega, HH.out.1, HH.out.2⟩
        · rw [decide_eq_false q1] at hpn
          have g1 : ¬ 48 ≤ bt s i := by rw [e2]; omega
          have HPN := Lib.hid hpn
          clear hpn hp e2 q1
          go_wp2
          go_roundg k
          case measure => omega
          case rel =>
            have hk : s.size - k = i + 1 := by have := HK.out; omega
            exact ⟨by rw [hk, HPN.out]; rfl, by rw [hk]; simp, by have := HK.out; omega, HH.out.1, HH.out.2⟩
set_option maxHeartbeats 4000000 in
set_option maxRecDepth 100000 in
theorem parses_f5 (s : ByteArray) (w : World) (hm : MostIs w) (h100 : ¬ 100 < s.size) (HP : ∀ w, Calls Tryd.prog 36 #[.string s] w (ErrPost w)) (hc : 1 < s.size) (h39 : s.size < 39) (hb : bt s 0 = 48) :
    Calls Tryd.prog 12 #[.string s] w fun e w' => e = .returned (.bool true) ∧ Below w.heap.size w w' := by
  have hbt := get_bt s
  have hse := not_nought s hc
  go_enter Tryd.func12, Tryd.ntmps12
  go_wp2_with fail
  refine (alive_true _ hm).mono ?_
  rintro e w1 ⟨rfl, hb1⟩
  go_wp2_with fail
  refine (HP _).mono ?_
  rintro e w2 ⟨rfl, hb2⟩
  have HB2 := Lib.hid (And.intro (Blk.new w2 24 #[.int .u64 0, .int .u64 0]) (below_al (below_on hb1 hb2) (.cells #[.int .u64 0, .int .u64 0] 24)))
  clear hb1 hb2
  go_wp2_with fail
  generalize w2.heap.size = g at *
  go_loopg [5, 6] s.size (fun k v5 v6 wr => ParInv w s g false v5 v6 k wr)
  case atStart => exact ⟨by rw [par_false], by simp, Nat.le_refl _, HB2.out.1, HB2.out.2⟩
  case round =>
    obtain ⟨rfl, rfl, hle, hblk, hbel⟩ := hrel
    cases gk with
    | zero =>
      rw [Nat.sub_zero, par_end]
      have c0 := cell_of0 hblk
      have c1 := cell_of1 hblk
      have l0 := hblk.lt
      have HH := Lib.hid hbel
      clear hblk hbel hle
      rw [Bool.false_and]
      go_wp2
      go_ret
      exact ⟨rfl, HH.out⟩
    | succ k =>
      obtain ⟨i, hi⟩ : ∃ i : Nat, s.size - (k + 1) = i := ⟨_, rfl⟩
      rw [hi]
      have hi8 : i < s.size := by omega
      have HK := Lib.hid (And.intro hi hle)
      have HH := Lib.hid (And.intro hblk hbel)
      have hpn := par_next s false i hi8
      clear hi hle hblk hbel
      cases hp : par s false i
      · rw [hp, Bool.false_and] at hpn
        have HPN := Lib.hid hpn
        clear hpn hp
        go_wp2
        go_roundg k
        case measure => omega
        case rel =>
          have hk : s.size - k = i + 1 := by have := HK.out; omega
          exact ⟨by rw [hk, HPN.out], by rw [hk]; simp, by have := HK.out; omega, HH.out.1, HH.out.2⟩
      · rw [hp, Bool.true_and] at hpn
        have e2 := bt_bn s i
        by_cases q1 : 48 ≤ bn s i
        · by_cases q2 : bn s i ≤ 57
          · rw [decide_eq_true q1, decide_eq_true q2] at hpn
            have g1 : 48 ≤ bt s i := by rw [e2]; omega
            have g2 : bt s i ≤ 57 := by rw [e2]; omega
            have HPN := Lib.hid hpn
            clear hpn hp e2 q1 q2
            go_wp2
            go_roundg k
            case measure => omega
            case rel =>
              have hk : s.size - k = i + 1 := by have := HK.out; omega
              exact ⟨by rw [hk, HPN.out]; rfl, by rw [hk]; simp, by have := HK.out; omega, HH.out.1, HH.out.2⟩
          · rw [decide_eq_true q1, decide_eq_false q2] at hpn
            have g1 : 48 ≤ bt s i := by rw [e2]; omega
            have g2 : ¬ bt s i ≤ 57 := by rw [e2]; omega
            have HPN := Lib.hid hpn
            clear hpn hp e2 q1 q2
            go_wp2
            go_roundg k
            case measure => omega
            case rel =>
              have hk : s.size - k = i + 1 := by have := HK.out; omega
              exact ⟨by rw [hk, HPN.out]; rfl, by rw [hk]; simp, by have := HK.out; omega, HH.out.1, HH.out.2⟩
        · rw [decide_eq_false q1] at hpn
          have g1 : ¬ 48 ≤ bt s i := by rw [e2]; omega
          have HPN := Lib.hid hpn
          clear hpn hp e2 q1
          go_wp2
          go_roundg k
          case measure => omega
          case rel =>
            have hk : s.size - k = i + 1 := by have := HK.out; omega
            exact ⟨by rw [hk, HPN.out]; rfl, by rw [hk]; simp, by have := HK.out; omega, HH.out.1, HH.out.2⟩
set_option maxHeartbeats 4000000 in
set_option maxRecDepth 100000 in
theorem parses_t3 (s : ByteArray) (w : World) (hm : MostIs w) (h100 : ¬ 100 < s.size) (HP : ∀ w, Calls Tryd.prog 36 #[.string s] w (ErrPost w)) (hc : 0 < s.size) (h39 : s.size < 39) (hb : (bt s 0 != 48) = true) (hall : s.data.toList.all dig = false) :
    Calls Tryd.prog 12 #[.string s] w fun e w' => e = .returned (.bool true) ∧ Below w.heap.size w w' := by
  have hbt := get_bt s
  go_enter Tryd.func12, Tryd.ntmps12
  go_wp2_with fail
  refine (alive_true _ hm).mono ?_
  rintro e w1 ⟨rfl, hb1⟩
  go_wp2_with fail
  refine (HP _).mono ?_
  rintro e w2 ⟨rfl, hb2⟩
  have HB2 := Lib.hid (And.intro (Blk.new w2 24 #[.int .u64 0, .int .u64 0]) (below_al (below_on hb1 hb2) (.cells #[.int .u64 0, .int .u64 0] 24)))
  clear hb1 hb2
  go_wp2_with fail
  generalize w2.heap.size = g at *
  go_loopg [5, 6] s.size (fun k v5 v6 wr => ParInv w s g true v5 v6 k wr)
  case atStart => exact ⟨by simp [par], by simp, Nat.le_refl _, HB2.out.1, HB2.out.2⟩
  case round =>
    obtain ⟨rfl, rfl, hle, hblk, hbel⟩ := hrel
    cases gk with
    | zero =>
      rw [Nat.sub_zero, par_end]
      have c0 := cell_of0 hblk
      have c1 := cell_of1 hblk
      have l0 := hblk.lt
      have HH := Lib.hid hbel
      clear hblk hbel hle
      rw [Bool.true_and, hall]
      go_wp2
      go_ret
      exact ⟨rfl, HH.out⟩
    | succ k =>
      obtain ⟨i, hi⟩ : ∃ i : Nat, s.size - (k + 1) = i := ⟨_, rfl⟩
      rw [hi]
      have hi8 : i < s.size := by omega
      have HK := Lib.hid (And.intro hi hle)
      have HH := Lib.hid (And.intro hblk hbel)
      have hpn := par_next s true i hi8
      clear hi hle hblk hbel
      cases hp : par s true i
      · rw [hp, Bool.false_and] at hpn
        have HPN := Lib.hid hpn
        clear hpn hp
        go_wp2
        go_roundg k
        case measure => omega
        case rel =>
          have hk : s.size - k = i + 1 := by have := HK.out; omega
          exact ⟨by rw [hk, HPN.out], by rw [hk]; simp, by have := HK.out; omega, HH.out.1, HH.out.2⟩
      · rw [hp, Bool.true_and] at hpn
        have e2 := bt_bn s i
        by_cases q1 : 48 ≤ bn s i
        · by_cases q2 : bn s i ≤ 57
          · rw [decide_eq_true q1, decide_eq_true q2] at hpn
            have g1 : 48 ≤ bt s i := by rw [e2]; omega
            have g2 : bt s i ≤ 57 := by rw [e2]; omega
            have HPN := Lib.hid hpn
            clear hpn hp e2 q1 q2
            go_wp2
            go_roundg k
            case measure => omega
            case rel =>
              have hk : s.size - k = i + 1 := by have := HK.out; omega
              exact ⟨by rw [hk, HPN.out]; rfl, by rw [hk]; simp, by have := HK.out; omega, HH.out.1, HH.out.2⟩
          · rw [decide_eq_true q1, decide_eq_false q2] at hpn
            have g1 : 48 ≤ bt s i := by rw [e2]; omega
            have g2 : ¬ bt s i ≤ 57 := by rw [e2]; omega
            have HPN := Lib.hid hpn
            clear hpn hp e2 q1 q2
            go_wp2
            go_roundg k
            case measure => omega
            case rel =>
              have hk : s.size - k = i + 1 := by have := HK.out; omega
              exact ⟨by rw [hk, HPN.out]; rfl, by rw [hk]; simp, by have := HK.out; omega, HH.out.1, HH.out.2⟩
        · rw [decide_eq_false q1] at hpn
          have g1 : ¬ 48 ≤ bt s i := by rw [e2]; omega
          have HPN := Lib.hid hpn
          clear hpn hp e2 q1
          go_wp2
          go_roundg k
          case measure => omega
          case rel =>
            have hk : s.size - k = i + 1 := by have := HK.out; omega
            exact ⟨by rw [hk, HPN.out]; rfl, by rw [hk]; simp, by have := HK.out; omega, HH.out.1, HH.out.2⟩
set_option maxHeartbeats 4000000 in
set_option maxRecDepth 100000 in
theorem parses_long (s : ByteArray) (w : World) (hm : MostIs w) (h100 : 100 < s.size) :
    Calls Tryd.prog 12 #[.string s] w fun e w' => e = .returned (.bool true) ∧ Below w.heap.size w w' := by
  go_enter Tryd.func12, Tryd.ntmps12
  go_wp2_with fail
  refine (alive_true _ hm).mono ?_
  rintro e w1 ⟨rfl, hb1⟩
  go_wp2
  go_ret
  exact ⟨rfl, hb1⟩
set_option maxHeartbeats 4000000 in
set_option maxRecDepth 100000 in
theorem parses_ok (v : Nat) (s : ByteArray) (w : World) (hm : MostIs w) (h100 : ¬ 100 < s.size) (HP : ∀ w, Calls Tryd.prog 36 #[.string s] w fun e w' => e = .returned (.tuple #[.agg #[.int .u64 (hi v), .int .u64 (lo v)], .int .i64 0]) ∧ Below w.heap.size w w') (HS : ∀ w, Calls Tryd.prog 37 #[A v] w fun e w' => e = .returned (.string s) ∧ Below w.heap.size w w') :
    Calls Tryd.prog 12 #[.string s] w fun e w' => e = .returned (.bool true) ∧ Below w.heap.size w w' := by
  go_enter Tryd.func12, Tryd.ntmps12
  go_wp2_with fail
  refine (alive_true _ hm).mono ?_
  rintro e w1 ⟨rfl, hb1⟩
  go_wp2_with fail
  refine (HP _).mono ?_
  rintro e w2 ⟨rfl, hb2⟩
  have Bx : Blk (w2.alloc (.cells #[.int .u64 (hi v), .int .u64 (lo v)] 24)) w2.heap.size 24 #[.int .u64 (hi v), .int .u64 (lo v)] := Blk.new _ _ _
  have c0 := cell_of0 Bx
  have c1 := cell_of1 Bx
  have l0 := Bx.lt
  go_wp2_with fail
  refine (HS _).mono ?_
  rintro e w3 ⟨rfl, hb3⟩
  go_wp2
  go_ret
  exact ⟨rfl, by repeat (with_reducible first | exact Below.refl _ _ | assumption | refine below_al ?_ _ | refine below_set ?_ (by omega) | refine below_drewN ?_ | refine below_dr ?_ | refine below_on ?_ (by assumption))⟩
theorem walkWideParses (s : ByteArray) (hs : s.size ≤ maxLen) (w : World) (hm : MostIs w) :
    Calls Tryd.prog 12 #[.string s] w fun e w' => e = .returned (.bool true) ∧ Below w.heap.size w w' := by
  have hs2 : s.size ≤ 9223372036854775807 := hs
  by_cases h100 : 100 < s.size
  · exact parses_long s w hm h100
  · by_cases hz : s.size = 0
    · have e : s = ⟨#[]⟩ := by
        apply ByteArray.ext
        exact Array.eq_empty_of_size_eq_zero hz
      subst e
      exact parses_f1 _ w hm h100 (fun w => parse_empty w) hz
    · by_cases hd : s.data.toList.all dig = true
      · by_cases h1 : s.size = 1 ∨ ¬ bt s 0 = 48
        · by_cases hv : valL s.data.toList < M
          · have ht := text_val s (by omega) h1 hd
            refine parses_ok (valL s.data.toList) s w hm h100 (fun w => (parse_main s w (by omega) h1 hs2 hd).mono fun e w' ⟨p1, _, p3⟩ => ⟨p1 hv, p3⟩) (fun w => ?_)
            have := refshow_any (valL s.data.toList) w hv
            rw [← ht] at this
            exact this
          · refine parses_f2 s w hm h100 (fun w => (parse_main s w (by omega) h1 hs2 hd).mono fun e w' ⟨_, p2, p3⟩ => ⟨p2 hv, p3⟩) (by omega) ?_
            intro h39
            have h2 := valL_lt _ s.data.toList rfl hd
            have h3 : s.data.toList.length = s.size := rfl
            rw [h3] at h2
            have h4 : (10 : Nat) ^ s.size ≤ 10 ^ 38 := Nat.pow_le_pow_right (by omega) (by omega)
            unfold M at hv
            omega
        · have h2 : 1 < s.size ∧ bt s 0 = 48 := by
            constructor
            · omega
            · exact Classical.not_not.1 fun h => h1 (.inr h)
          by_cases h39 : s.size < 39
          · exact parses_f5 s w hm h100 (fun w => parse_lead s w h2.1 h2.2 hs2) h2.1 h39 h2.2
          · exact parses_f2 s w hm h100 (fun w => parse_lead s w h2.1 h2.2 hs2) (by omega) h39
      · by_cases h1 : s.size = 1 ∨ ¬ bt s 0 = 48
        · by_cases h39 : s.size < 39
          · by_cases hb : bt s 0 = 48
            · exfalso
              have h2 : s.size = 1 := by
                rcases h1 with h | h
                · exact h
                · exact absurd hb h
              apply hd
              rw [List.all_eq_true]
              intro x hx
              have h3 : s.data.toList.length = 1 := h2
              obtain ⟨y, hy⟩ := List.length_eq_one_iff.1 h3
              rw [hy] at hx
              obtain rfl := List.mem_singleton.1 hx
              have h4 : 0 < s.data.size := by show 0 < s.size; omega
              have h5 : s.data[0] = x := by
                have h6 : s.data.toList[0]? = some x := by rw [hy]; rfl
                rw [← Array.getElem_toList, ← Option.some_inj, ← h6]
                exact (List.getElem?_eq_getElem (by simpa using h4)).symm
              rw [bt_data] at hb
              unfold Array.getD at hb
              rw [dif_pos h4] at hb
              have h7 : ((s.data[0]).toNat : Int) = 48 := hb
              rw [h5] at h7
              simp [dig]
              omega
            · exact parses_t3 s w hm h100 (fun w => parse_bad s w (by omega) h1 hs2 hd) (by omega) h39 (by simpa using hb) (by simpa using hd)
          · exact parses_f2 s w hm h100 (fun w => parse_bad s w (by omega) h1 hs2 hd) (by omega) h39
        · have h2 : 1 < s.size ∧ bt s 0 = 48 := by
            constructor
            · omega
            · exact Classical.not_not.1 fun h => h1 (.inr h)
          by_cases h39 : s.size < 39
          · exact parses_f5 s w hm h100 (fun w => parse_lead s w h2.1 h2.2 hs2) h2.1 h39 h2.2
          · exact parses_f2 s w hm h100 (fun w => parse_lead s w h2.1 h2.2 hs2) (by omega) h39
end Go.Proofs.YtjjlfkbgieloeaaDoor
