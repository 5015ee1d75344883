/- The walk of the law ShelfTexts. Conditions: those of its row. -/
import Derived.Test.YtjjlfkbgieloeaaDoorSParse
import Derived.Test.YtjjlfkbgieloeaaDoorRefGood
import Derived.Lib.IndexBytes
import Derived.Deep.QuietTactic
import Derived.Test.YtjjlfkbgieloeaaDoorClass4
import Derived.BigQuiet
namespace Go.Proofs.YtjjlfkbgieloeaaDoor
open Go.RowKit Go.PlainAid Go.BigFrame
structure TxC (w0 : World) (v : Array Value) (gp : Nat) (w : World) : Prop where
  p : Blk w gp 39 v
  bel : Below w0.heap.size w0 w
theorem TxC.next {w0 w w' : World} {v : Array Value} {gp : Nat} (h : TxC w0 v gp w) (hb : Below w.heap.size w w') : TxC w0 v gp w' := ⟨h.p.carry hb, below_on h.bel hb⟩
/-- the place of the first at sign from a place on; -1: there is none -/
def atI (s : ByteArray) (j : Nat) : Int := if Lib.index (s.data.toList.drop j) [64] = -1 then -1 else (j : Int) + Lib.index (s.data.toList.drop j) [64]
theorem atI_end (s : ByteArray) : atI s s.size = -1 := by
  unfold atI
  have e : s.data.toList.drop s.size = [] := List.drop_of_length_le (Nat.le_refl _)
  have e2 : Lib.index [] [64] = -1 := by decide
  rw [e, e2, if_pos rfl]
theorem atI_cons (s : ByteArray) (j : Nat) (h : j < s.size) : s.data.toList.drop j = s.data.toList[j]'h :: s.data.toList.drop (j + 1) := List.drop_eq_getElem_cons h
theorem atI_hit (s : ByteArray) (j : Nat) (h : j < s.size) (hb : bt s j = 64) : atI s j = j := by
  unfold atI
  rw [atI_cons s j h]
  have e : s.data.toList[j]'h = 64 := by
    unfold bt at hb
    rw [dif_pos h] at hb
    apply UInt8.toNat_inj.1
    show (s[j]).toNat = 64
    omega
  rw [e]
  have e2 : Lib.index (64 :: s.data.toList.drop (j + 1)) [64] = 0 := by unfold Lib.index; simp
  rw [e2]
  simp
theorem atI_miss (s : ByteArray) (j : Nat) (h : j < s.size) (hb : ¬ bt s j = 64) : atI s j = atI s (j + 1) := by
  unfold atI
  rw [atI_cons s j h]
  have e : ¬ (64 : UInt8) = s.data.toList[j]'h := by
    intro e
    apply hb
    unfold bt
    rw [dif_pos h]
    show ((s.data.toList[j]'h).toNat : Int) = 64
    rw [← e]
    rfl
  have e2 : Lib.index (s.data.toList[j]'h :: s.data.toList.drop (j + 1)) [64] = if Lib.index (s.data.toList.drop (j + 1)) [64] == -1 then -1 else Lib.index (s.data.toList.drop (j + 1)) [64] + 1 := by
    conv => lhs; unfold Lib.index
    rw [if_neg]
    simp only [List.isPrefixOf, Bool.and_true]
    simpa using e
  rw [e2]
  have hge := Lib.index_ge (s.data.toList.drop (j + 1)) [64]
  by_cases h1 : Lib.index (s.data.toList.drop (j + 1)) [64] = -1
  · rw [h1]; simp
  · rw [if_neg h1]
    have h2 : (Lib.index (s.data.toList.drop (j + 1)) [64] == -1) = false := by simpa using h1
    rw [h2]
    simp only [Bool.false_eq_true, if_false]
    rw [if_neg (by omega)]
    omega
theorem max_nat (n : Nat) (ats : Array TypeId) (ty : TypeId) : Builtin.max_ ats ty #[.int .i64 (n : Int), .int .i64 0] = pure (.int .i64 (n : Int)) := by
  have h : ¬ ((n : Int) < 0) := by omega
  simp only [Builtin.max_, List.foldlM_cons, List.foldlM_nil, Builtin.max2, gt_iff_lt, if_neg h]
  rfl
structure TxInv (W : World) (s : ByteArray) (va vi : Value) (k : Nat) (wr : World) : Prop where
  va : va = .int .i64 (atI s k)
  vi : vi = .int .i64 ((k : Int) - 1)
  le : k ≤ s.size
  same : wr = W
set_option maxRecDepth 100000 in
set_option maxHeartbeats 4000000 in
theorem tx_l (s : ByteArray) (st : Int) (w : World) (h : 100 < s.size) :
    Calls Tryd.prog 13 #[.string s, .int .i64 st] w fun e w' => e = .returned (.bool true) ∧ Below w.heap.size w w' := by
  go_enter Tryd.func13, Tryd.ntmps13
  go_wp2_with fail
  refine (alive26 _).mono ?_
  rintro e w1 ⟨rfl, hb1⟩
  go_wp2
  go_ret
  exact ⟨rfl, hb1⟩
set_option maxRecDepth 100000 in
set_option maxHeartbeats 4000000 in
theorem tx_n (s : ByteArray) (st m : Int) (w : World) (hs : s.size ≤ 100) (hm : MaxLenIs m w) (hat : atI s 0 = -1) (HP : ∀ w, MaxLenIs m w → Calls Tryd.prog 39 #[.string s, .int .i64 st] w fun e w' => e = .returned (.tuple #[.agg #[.string ⟨#[]⟩, .string ⟨#[]⟩, .int .i64 0], .int .i64 4]) ∧ Below w.heap.size w w') (HS : ∀ w, Calls Tryd.prog 40 #[.agg #[.string ⟨#[]⟩, .string ⟨#[]⟩, .int .i64 0]] w fun e w' => e = .returned (.string ⟨#[]⟩) ∧ Below w.heap.size w w') :
    Calls Tryd.prog 13 #[.string s, .int .i64 st] w fun e w' => e = .returned (.bool true) ∧ Below w.heap.size w w' := by
  have hbt := get_bt s
  have HM := Lib.hid hm
  clear hm
  go_enter Tryd.func13, Tryd.ntmps13
  go_wp2_with fail
  refine (alive26 _).mono ?_
  rintro e w1 ⟨rfl, hb1⟩
  go_wp2_with fail
  refine (HP _ (HM.out.below hb1)).mono ?_
  rintro e w2 ⟨rfl, hb2⟩
  have hB2 := below_on hb1 hb2
  have Bp : Blk (w2.alloc (.cells #[.string ⟨#[]⟩, .string ⟨#[]⟩, .int .i64 0] 39)) w2.heap.size 39 #[.string ⟨#[]⟩, .string ⟨#[]⟩, .int .i64 0] := Blk.new _ _ _
  have hB := below_al hB2 (.cells #[.string ⟨#[]⟩, .string ⟨#[]⟩, .int .i64 0] 39)
  clear hb1 hb2 hB2
  go_wp2_with fail
  have HZ := Lib.hid (And.intro Bp hB)
  clear Bp hB
  generalize (w2.alloc (.cells #[.string ⟨#[]⟩, .string ⟨#[]⟩, .int .i64 0] 39)) = W at *
  generalize w2.heap.size = gp at *
  go_loopg [7, 8] s.size (fun k va vi wr => TxInv W s va vi k wr)
  case atStart => exact ⟨by rw [atI_end], rfl, Nat.le_refl _, rfl⟩
  case round =>
    obtain ⟨rfl, rfl, hle, rfl⟩ := hrel
    cases gk with
    | succ k =>
      obtain ⟨q, hq⟩ : ∃ q : Nat, ((k + 1 : Nat) : Int) - 1 = q := ⟨k, by omega⟩
      have hqk : q = k := by omega
      rw [hq]
      subst hqk
      have hks : q < s.size := by omega
      have HQ := Lib.hid (And.intro hq hle)
      clear hq hle
      by_cases hb : bt s q = 64
      · have hx := atI_hit s q hks hb
        have hb1 : (bt s q == 64) = true := by simpa using hb
        have HX := Lib.hid hx
        obtain ⟨x, hx2⟩ : ∃ x, atI s (q + 1) = x := ⟨_, rfl⟩
        rw [hx2]
        clear hb hx hx2
        go_wp2
        go_roundg q
        case measure => omega
        case rel => exact ⟨by rw [HX.out], rfl, by omega, rfl⟩
      · have hx := atI_miss s q hks hb
        have hb1 : (bt s q == 64) = false := by simpa using hb
        have HX := Lib.hid hx
        obtain ⟨x, hx2⟩ : ∃ x, atI s (q + 1) = x := ⟨_, rfl⟩
        have HY := Lib.hid hx2
        rw [hx2]
        clear hb hx hx2
        go_wp2
        go_roundg q
        case measure => omega
        case rel => exact ⟨by rw [HX.out, HY.out], rfl, by omega, rfl⟩
    | zero =>
      rw [hat]
      clear hle
      have k9 : decide ((0 : Int) ≤ -1) = false := by decide
      obtain ⟨c0, c1, c2⟩ := plc_cells HZ.out.1
      have lp := HZ.out.1.lt
      go_wp2_with fail
      go_quiet (fail)
      go_wp2_with fail
      refine (HS _).mono ?_
      rintro e w5 ⟨rfl, hb5⟩
      go_wp2
      go_ret
      exact ⟨rfl, below_on (below_drewN HZ.out.2) hb5⟩
set_option maxRecDepth 100000 in
set_option maxHeartbeats 4000000 in
theorem tx_f (s : ByteArray) (st m : Int) (k : Nat) (w : World) (hs : s.size ≤ 100) (hm : MaxLenIs m w) (hat : atI s 0 = k) (hk : k < s.size) (HP : ∀ w, MaxLenIs m w → Calls Tryd.prog 39 #[.string s, .int .i64 st] w fun e w' => e = .returned (.tuple #[.agg #[.string ⟨#[]⟩, .string ⟨#[]⟩, .int .i64 0], .int .i64 4]) ∧ Below w.heap.size w w') (HG : ∀ w, Calls Tryd.prog 31 #[.string (s.extract 0 k), .string (s.extract (k + 1) s.size), .int .i64 st] w fun e w' => e = .returned (.bool false) ∧ Below w.heap.size w w') (HS : ∀ w, Calls Tryd.prog 40 #[.agg #[.string ⟨#[]⟩, .string ⟨#[]⟩, .int .i64 0]] w fun e w' => e = .returned (.string ⟨#[]⟩) ∧ Below w.heap.size w w') :
    Calls Tryd.prog 13 #[.string s, .int .i64 st] w fun e w' => e = .returned (.bool true) ∧ Below w.heap.size w w' := by
  have hbt := get_bt s
  have HM := Lib.hid hm
  clear hm
  go_enter Tryd.func13, Tryd.ntmps13
  go_wp2_with fail
  refine (alive26 _).mono ?_
  rintro e w1 ⟨rfl, hb1⟩
  go_wp2_with fail
  refine (HP _ (HM.out.below hb1)).mono ?_
  rintro e w2 ⟨rfl, hb2⟩
  have hB2 := below_on hb1 hb2
  have Bp : Blk (w2.alloc (.cells #[.string ⟨#[]⟩, .string ⟨#[]⟩, .int .i64 0] 39)) w2.heap.size 39 #[.string ⟨#[]⟩, .string ⟨#[]⟩, .int .i64 0] := Blk.new _ _ _
  have hB := below_al hB2 (.cells #[.string ⟨#[]⟩, .string ⟨#[]⟩, .int .i64 0] 39)
  clear hb1 hb2 hB2
  go_wp2_with fail
  have HZ := Lib.hid (And.intro Bp hB)
  clear Bp hB
  generalize (w2.alloc (.cells #[.string ⟨#[]⟩, .string ⟨#[]⟩, .int .i64 0] 39)) = W at *
  generalize w2.heap.size = gp at *
  go_loopg [7, 8] s.size (fun k va vi wr => TxInv W s va vi k wr)
  case atStart => exact ⟨by rw [atI_end], rfl, Nat.le_refl _, rfl⟩
  case round =>
    obtain ⟨rfl, rfl, hle, rfl⟩ := hrel
    cases gk with
    | succ k =>
      obtain ⟨q, hq⟩ : ∃ q : Nat, ((k + 1 : Nat) : Int) - 1 = q := ⟨k, by omega⟩
      have hqk : q = k := by omega
      rw [hq]
      subst hqk
      have hks : q < s.size := by omega
      have HQ := Lib.hid (And.intro hq hle)
      clear hq hle
      by_cases hb : bt s q = 64
      · have hx := atI_hit s q hks hb
        have hb1 : (bt s q == 64) = true := by simpa using hb
        have HX := Lib.hid hx
        obtain ⟨x, hx2⟩ : ∃ x, atI s (q + 1) = x := ⟨_, rfl⟩
        rw [hx2]
        clear hb hx hx2
        go_wp2
        go_roundg q
        case measure => omega
        case rel => exact ⟨by rw [HX.out], rfl, by omega, rfl⟩
      · have hx := atI_miss s q hks hb
        have hb1 : (bt s q == 64) = false := by simpa using hb
        have HX := Lib.hid hx
        obtain ⟨x, hx2⟩ : ∃ x, atI s (q + 1) = x := ⟨_, rfl⟩
        have HY := Lib.hid hx2
        rw [hx2]
        clear hb hx hx2
        go_wp2
        go_roundg q
        case measure => omega
        case rel => exact ⟨by rw [HX.out, HY.out], rfl, by omega, rfl⟩
    | zero =>
      rw [hat]
      clear hle
      have k0 : (0 : Int) ≤ (k : Int) := by omega
      have k1 : (k : Int) < (s.size : Int) := by omega
      have k2 : (k : Int) ≤ (s.size : Int) := by omega
      have k3 : (0 : Int) ≤ (k : Int) + 1 := by omega
      have k4 : (k : Int) + 1 ≤ (s.size : Int) := by omega
      have k5 : IntKind.i64.wrap ((k : Int) + 1) = (k : Int) + 1 := IntWalk.i64_in _ (by omega)
      have k6 : ((k : Int) + 1).toNat = k + 1 := by omega
      have k7 : decide ((0 : Int) ≤ (k : Int)) = true := decide_eq_true (by omega)
      have hmx := max_nat k
      go_wp2_with fail
      have hC : TxC w #[.string ⟨#[]⟩, .string ⟨#[]⟩, .int .i64 0] gp wr.drew := ⟨HZ.out.1.drew, below_dr HZ.out.2⟩
      refine region_class (C := TxC w #[.string ⟨#[]⟩, .string ⟨#[]⟩, .int .i64 0] gp) (by kernel_rfl) (by kernel_rfl) hC ?_
      try simp only [List.append]
      go_big_quiet_want; go_big_quiet_op; first | go_big_quiet_on | (refine ⟨_, fun _ _ => rfl, ?_⟩; go_big_quiet_on)
      go_big_quiet_want; go_big_quiet_op; first | go_big_quiet_on | (refine ⟨_, fun _ _ => rfl, ?_⟩; go_big_quiet_on)
      go_big_quiet_want; go_big_quiet_op; first | go_big_quiet_on | (refine ⟨_, fun _ _ => rfl, ?_⟩; go_big_quiet_on)
      first | go_big_quiet_skip | (go_big_quiet_want; go_big_quiet_op; first | go_big_quiet_on | (refine ⟨_, fun _ _ => rfl, ?_⟩; go_big_quiet_on))
      first | go_big_quiet_skip | (go_big_quiet_want; go_big_quiet_op; first | go_big_quiet_on | (refine ⟨_, fun _ _ => rfl, ?_⟩; go_big_quiet_on))
      first | go_big_quiet_skip | (go_big_quiet_want; go_big_quiet_op; first | go_big_quiet_on | (refine ⟨_, fun _ _ => rfl, ?_⟩; go_big_quiet_on))
      first | go_big_quiet_skip | (go_big_quiet_want; go_big_quiet_op; first | go_big_quiet_on | (refine ⟨_, fun _ _ => rfl, ?_⟩; go_big_quiet_on))
      first | go_big_quiet_skip | (go_big_quiet_want; go_big_quiet_op; first | go_big_quiet_on | (refine ⟨_, fun _ _ => rfl, ?_⟩; go_big_quiet_on))
      first | go_big_quiet_skip | (go_big_quiet_want; go_big_quiet_op; first | go_big_quiet_on | (refine ⟨_, fun _ _ => rfl, ?_⟩; go_big_quiet_on))
      first | go_big_quiet_skip | (go_big_quiet_want; go_big_quiet_op; first | go_big_quiet_on | (refine ⟨_, fun _ _ => rfl, ?_⟩; go_big_quiet_on))
      first | go_big_quiet_skip | (go_big_quiet_want; go_big_quiet_op; first | go_big_quiet_on | (refine ⟨_, fun _ _ => rfl, ?_⟩; go_big_quiet_on))
      first | go_big_quiet_skip | (go_big_quiet_want; go_big_quiet_op; first | go_big_quiet_on | (refine ⟨_, fun _ _ => rfl, ?_⟩; go_big_quiet_on))
      first | go_big_quiet_skip | (go_big_quiet_want; refine quiet_call2 _ rfl Tryd.func31 (by kernel_rfl) (by kernel_rfl) (by simp only [List.map_toArray, List.map]; rfl) (fun w' hw => (HG w').mono fun e w'' h => ⟨h.1, hw.next h.2⟩) ?_; go_big_quiet_on; refine wq_cast (by simp only [Act.put, List.setIfInBounds_toArray, List.set_cons_zero, List.set_cons_succ]; rfl) ?_)
      go_big_quiet_want; go_big_quiet_op; first | go_big_quiet_on | (refine ⟨_, fun _ _ => rfl, ?_⟩; go_big_quiet_on)
      go_big_quiet_want; go_big_quiet_op; first | go_big_quiet_on | (refine ⟨_, fun _ _ => rfl, ?_⟩; go_big_quiet_on)
      refine wpQuiet_nil ?_
      intro w4 hw4
      have Bp4 := hw4.p
      have hB4 := hw4.bel
      obtain ⟨c0, c1, c2⟩ := plc_cells Bp4
      have lp := Bp4.lt
      go_wp2_with fail
      refine (HS _).mono ?_
      rintro e w5 ⟨rfl, hb5⟩
      go_wp2
      go_ret
      exact ⟨rfl, below_on hB4 hb5⟩
set_option maxRecDepth 100000 in
set_option maxHeartbeats 4000000 in
theorem tx_y (s : ByteArray) (st m : Int) (k : Nat) (w : World) (hs : s.size ≤ 100) (hm : MaxLenIs m w) (hat : atI s 0 = k) (hk : k < s.size) (HP : ∀ w, MaxLenIs m w → Calls Tryd.prog 39 #[.string s, .int .i64 st] w fun e w' => e = .returned (.tuple #[.agg #[.string (s.extract 0 k), .string (s.extract (k + 1) s.size), .int .i64 st], .int .i64 0]) ∧ Below w.heap.size w w') (HG : ∀ w, Calls Tryd.prog 31 #[.string (s.extract 0 k), .string (s.extract (k + 1) s.size), .int .i64 st] w fun e w' => e = .returned (.bool true) ∧ Below w.heap.size w w') (HS : ∀ w, Calls Tryd.prog 40 #[.agg #[.string (s.extract 0 k), .string (s.extract (k + 1) s.size), .int .i64 st]] w fun e w' => e = .returned (.string s) ∧ Below w.heap.size w w') :
    Calls Tryd.prog 13 #[.string s, .int .i64 st] w fun e w' => e = .returned (.bool true) ∧ Below w.heap.size w w' := by
  have hbt := get_bt s
  have HM := Lib.hid hm
  clear hm
  go_enter Tryd.func13, Tryd.ntmps13
  go_wp2_with fail
  refine (alive26 _).mono ?_
  rintro e w1 ⟨rfl, hb1⟩
  go_wp2_with fail
  refine (HP _ (HM.out.below hb1)).mono ?_
  rintro e w2 ⟨rfl, hb2⟩
  have hB2 := below_on hb1 hb2
  have Bp : Blk (w2.alloc (.cells #[.string (s.extract 0 k), .string (s.extract (k + 1) s.size), .int .i64 st] 39)) w2.heap.size 39 #[.string (s.extract 0 k), .string (s.extract (k + 1) s.size), .int .i64 st] := Blk.new _ _ _
  have hB := below_al hB2 (.cells #[.string (s.extract 0 k), .string (s.extract (k + 1) s.size), .int .i64 st] 39)
  clear hb1 hb2 hB2
  go_wp2_with fail
  have HZ := Lib.hid (And.intro Bp hB)
  clear Bp hB
  generalize (w2.alloc (.cells #[.string (s.extract 0 k), .string (s.extract (k + 1) s.size), .int .i64 st] 39)) = W at *
  generalize w2.heap.size = gp at *
  go_loopg [7, 8] s.size (fun k va vi wr => TxInv W s va vi k wr)
  case atStart => exact ⟨by rw [atI_end], rfl, Nat.le_refl _, rfl⟩
  case round =>
    obtain ⟨rfl, rfl, hle, rfl⟩ := hrel
    cases gk with
    | succ k =>
      obtain ⟨q, hq⟩ : ∃ q : Nat, ((k + 1 : Nat) : Int) - 1 = q := ⟨k, by omega⟩
      have hqk : q = k := by omega
      rw [hq]
      subst hqk
      have hks : q < s.size := by omega
      have HQ := Lib.hid (And.intro hq hle)
      clear hq hle
      by_cases hb : bt s q = 64
      · have hx := atI_hit s q hks hb
        have hb1 : (bt s q == 64) = true := by simpa using hb
        have HX := Lib.hid hx
        obtain ⟨x, hx2⟩ : ∃ x, atI s (q + 1) = x := ⟨_, rfl⟩
        rw [hx2]
        clear hb hx hx2
        go_wp2
        go_roundg q
        case measure => omega
        case rel => exact ⟨by rw [HX.out], rfl, by omega, rfl⟩
      · have hx := atI_miss s q hks hb
        have hb1 : (bt s q == 64) = false := by simpa using hb
        have HX := Lib.hid hx
        obtain ⟨x, hx2⟩ : ∃ x, atI s (q + 1) = x := ⟨_, rfl⟩
        have HY := Lib.hid hx2
        rw [hx2]
        clear hb hx hx2
        go_wp2
        go_roundg q
        case measure => omega
        case rel => exact ⟨by rw [HX.out, HY.out], rfl, by omega, rfl⟩
    | zero =>
      rw [hat]
      clear hle
      have k0 : (0 : Int) ≤ (k : Int) := by omega
      have k1 : (k : Int) < (s.size : Int) := by omega
      have k2 : (k : Int) ≤ (s.size : Int) := by omega
      have k3 : (0 : Int) ≤ (k : Int) + 1 := by omega
      have k4 : (k : Int) + 1 ≤ (s.size : Int) := by omega
      have k5 : IntKind.i64.wrap ((k : Int) + 1) = (k : Int) + 1 := IntWalk.i64_in _ (by omega)
      have k6 : ((k : Int) + 1).toNat = k + 1 := by omega
      have k7 : decide ((0 : Int) ≤ (k : Int)) = true := decide_eq_true (by omega)
      have hmx := max_nat k
      go_wp2_with fail
      have hC : TxC w #[.string (s.extract 0 k), .string (s.extract (k + 1) s.size), .int .i64 st] gp wr.drew := ⟨HZ.out.1.drew, below_dr HZ.out.2⟩
      refine region_class (C := TxC w #[.string (s.extract 0 k), .string (s.extract (k + 1) s.size), .int .i64 st] gp) (by kernel_rfl) (by kernel_rfl) hC ?_
      try simp only [List.append]
      go_big_quiet_want; go_big_quiet_op; first | go_big_quiet_on | (refine ⟨_, fun _ _ => rfl, ?_⟩; go_big_quiet_on)
      go_big_quiet_want; go_big_quiet_op; first | go_big_quiet_on | (refine ⟨_, fun _ _ => rfl, ?_⟩; go_big_quiet_on)
      go_big_quiet_want; go_big_quiet_op; first | go_big_quiet_on | (refine ⟨_, fun _ _ => rfl, ?_⟩; go_big_quiet_on)
      first | go_big_quiet_skip | (go_big_quiet_want; go_big_quiet_op; first | go_big_quiet_on | (refine ⟨_, fun _ _ => rfl, ?_⟩; go_big_quiet_on))
      first | go_big_quiet_skip | (go_big_quiet_want; go_big_quiet_op; first | go_big_quiet_on | (refine ⟨_, fun _ _ => rfl, ?_⟩; go_big_quiet_on))
      first | go_big_quiet_skip | (go_big_quiet_want; go_big_quiet_op; first | go_big_quiet_on | (refine ⟨_, fun _ _ => rfl, ?_⟩; go_big_quiet_on))
      first | go_big_quiet_skip | (go_big_quiet_want; go_big_quiet_op; first | go_big_quiet_on | (refine ⟨_, fun _ _ => rfl, ?_⟩; go_big_quiet_on))
      first | go_big_quiet_skip | (go_big_quiet_want; go_big_quiet_op; first | go_big_quiet_on | (refine ⟨_, fun _ _ => rfl, ?_⟩; go_big_quiet_on))
      first | go_big_quiet_skip | (go_big_quiet_want; go_big_quiet_op; first | go_big_quiet_on | (refine ⟨_, fun _ _ => rfl, ?_⟩; go_big_quiet_on))
      first | go_big_quiet_skip | (go_big_quiet_want; go_big_quiet_op; first | go_big_quiet_on | (refine ⟨_, fun _ _ => rfl, ?_⟩; go_big_quiet_on))
      first | go_big_quiet_skip | (go_big_quiet_want; go_big_quiet_op; first | go_big_quiet_on | (refine ⟨_, fun _ _ => rfl, ?_⟩; go_big_quiet_on))
      first | go_big_quiet_skip | (go_big_quiet_want; go_big_quiet_op; first | go_big_quiet_on | (refine ⟨_, fun _ _ => rfl, ?_⟩; go_big_quiet_on))
      first | go_big_quiet_skip | (go_big_quiet_want; refine quiet_call2 _ rfl Tryd.func31 (by kernel_rfl) (by kernel_rfl) (by simp only [List.map_toArray, List.map]; rfl) (fun w' hw => (HG w').mono fun e w'' h => ⟨h.1, hw.next h.2⟩) ?_; go_big_quiet_on; refine wq_cast (by simp only [Act.put, List.setIfInBounds_toArray, List.set_cons_zero, List.set_cons_succ]; rfl) ?_)
      go_big_quiet_want; go_big_quiet_op; first | go_big_quiet_on | (refine ⟨_, fun _ _ => rfl, ?_⟩; go_big_quiet_on)
      go_big_quiet_want; go_big_quiet_op; first | go_big_quiet_on | (refine ⟨_, fun _ _ => rfl, ?_⟩; go_big_quiet_on)
      refine wpQuiet_nil ?_
      intro w4 hw4
      have Bp4 := hw4.p
      have hB4 := hw4.bel
      obtain ⟨c0, c1, c2⟩ := plc_cells Bp4
      have lp := Bp4.lt
      have hst : (st == st) = true := by simp
      clear c0 c1 c2
      go_wp2_with fail
      have hC6 : TxC w #[.string (s.extract 0 k), .string (s.extract (k + 1) s.size), .int .i64 st] gp w4.drew := ⟨Bp4.drew, below_dr hB4⟩
      refine region_class (C := TxC w #[.string (s.extract 0 k), .string (s.extract (k + 1) s.size), .int .i64 st] gp) (by kernel_rfl) (by kernel_rfl) hC6 ?_
      try simp only [List.append]
      go_big_quiet_want; go_big_quiet_op; first | go_big_quiet_on | (refine ⟨_, fun _ _ => rfl, ?_⟩; go_big_quiet_on)
      go_big_quiet_want; go_big_quiet_op; first | go_big_quiet_on | (refine ⟨_, fun _ _ => rfl, ?_⟩; go_big_quiet_on)
      go_big_quiet_want; go_big_quiet_op; first | go_big_quiet_on | (refine ⟨_, fun _ _ => rfl, ?_⟩; go_big_quiet_on)
      first | go_big_quiet_skip | (go_big_quiet_want; go_big_quiet_op; first | go_big_quiet_on | (refine ⟨_, fun _ _ => rfl, ?_⟩; go_big_quiet_on))
      first | go_big_quiet_skip | (go_big_quiet_want; refine quiet_i3 _ (fun w h => h.p.cell 2) rfl rfl ?_; go_big_quiet_on; refine wq_cast (by simp only [Act.put, List.setIfInBounds_toArray, List.set_cons_zero, List.set_cons_succ]; rfl) ?_)
      first | go_big_quiet_skip | (go_big_quiet_want; go_big_quiet_op; first | go_big_quiet_on | (refine ⟨_, fun _ _ => rfl, ?_⟩; go_big_quiet_on))
      first | go_big_quiet_skip | (go_big_quiet_want; go_big_quiet_op; first | go_big_quiet_on | (refine ⟨_, fun _ _ => rfl, ?_⟩; go_big_quiet_on))
      go_big_quiet_want; go_big_quiet_op; first | go_big_quiet_on | (refine ⟨_, fun _ _ => rfl, ?_⟩; go_big_quiet_on)
      go_big_quiet_want; go_big_quiet_op; first | go_big_quiet_on | (refine ⟨_, fun _ _ => rfl, ?_⟩; go_big_quiet_on)
      first | go_big_quiet_skip | (go_big_quiet_want; refine quiet_c39 _ (fun w h => h.p) rfl rfl ?_; go_big_quiet_on; refine wq_cast (by simp only [Act.put, List.setIfInBounds_toArray, List.set_cons_zero, List.set_cons_succ]; rfl) ?_)
      first | go_big_quiet_skip | (go_big_quiet_want; refine quiet_call2 _ rfl Tryd.func40 (by kernel_rfl) (by kernel_rfl) (by simp only [List.map_toArray, List.map]; rfl) (fun w' hw => (HS w').mono fun e w'' h => ⟨h.1, hw.next h.2⟩) ?_; go_big_quiet_on; refine wq_cast (by simp only [Act.put, List.setIfInBounds_toArray, List.set_cons_zero, List.set_cons_succ]; rfl) ?_)
      first | go_big_quiet_skip | (go_big_quiet_want; go_big_quiet_op; first | go_big_quiet_on | (refine ⟨_, fun _ _ => rfl, ?_⟩; go_big_quiet_on))
      first | go_big_quiet_skip | (go_big_quiet_want; refine quiet_eqs _ _ rfl rfl rfl ?_; go_big_quiet_on; refine wq_cast (by simp only [Act.put, List.setIfInBounds_toArray, List.set_cons_zero, List.set_cons_succ]; rfl) ?_)
      go_big_quiet_want; go_big_quiet_op; first | go_big_quiet_on | (refine ⟨_, fun _ _ => rfl, ?_⟩; go_big_quiet_on)
      go_big_quiet_want; go_big_quiet_op; first | go_big_quiet_on | (refine ⟨_, fun _ _ => rfl, ?_⟩; go_big_quiet_on)
      first | go_big_quiet_skip | (go_big_quiet_want; go_big_quiet_op; first | go_big_quiet_on | (refine ⟨_, fun _ _ => rfl, ?_⟩; go_big_quiet_on))
      first | go_big_quiet_skip | (go_big_quiet_want; refine quiet_s9 _ (fun w h => h.p.cell 0) rfl rfl ?_; go_big_quiet_on; refine wq_cast (by simp only [Act.put, List.setIfInBounds_toArray, List.set_cons_zero, List.set_cons_succ]; rfl) ?_)
      first | go_big_quiet_skip | (go_big_quiet_want; go_big_quiet_op; first | go_big_quiet_on | (refine ⟨_, fun _ _ => rfl, ?_⟩; go_big_quiet_on))
      first | go_big_quiet_skip | (go_big_quiet_want; go_big_quiet_op; first | go_big_quiet_on | (refine ⟨_, fun _ _ => rfl, ?_⟩; go_big_quiet_on))
      first | go_big_quiet_skip | (go_big_quiet_want; go_big_quiet_op; first | go_big_quiet_on | (refine ⟨_, fun _ _ => rfl, ?_⟩; go_big_quiet_on))
      first | go_big_quiet_skip | (go_big_quiet_want; refine quiet_eqs _ _ rfl rfl rfl ?_; go_big_quiet_on; refine wq_cast (by simp only [Act.put, List.setIfInBounds_toArray, List.set_cons_zero, List.set_cons_succ]; rfl) ?_)
      go_big_quiet_want; go_big_quiet_op; first | go_big_quiet_on | (refine ⟨_, fun _ _ => rfl, ?_⟩; go_big_quiet_on)
      go_big_quiet_want; go_big_quiet_op; first | go_big_quiet_on | (refine ⟨_, fun _ _ => rfl, ?_⟩; go_big_quiet_on)
      refine wpQuiet_nil ?_
      intro w6 hw6
      go_wp2
      go_ret
      exact ⟨rfl, hw6.bel⟩
end Go.Proofs.YtjjlfkbgieloeaaDoor
