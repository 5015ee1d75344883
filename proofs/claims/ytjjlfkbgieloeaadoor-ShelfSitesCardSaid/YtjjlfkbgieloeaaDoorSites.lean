/- The walk of the law ShelfSites. Conditions: none beyond its row's. -/
import Derived.Test.YtjjlfkbgieloeaaDoorUnlike
import Derived.Test.YtjjlfkbgieloeaaDoorRefByt
namespace Go.Proofs.YtjjlfkbgieloeaaDoor
open Go.RowKit Go.BigFrame Go.PlainAid
set_option maxRecDepth 100000 in
set_option maxHeartbeats 4000000 in
theorem sites_l (g a b : ByteArray) (st : Int) (w : World) (T : Int) (hT : wrap64 (wrap64 ((g.size : Int) + (a.size : Int)) + (b.size : Int)) = T) (h1 : 100 < T) :
    Calls Tryd.prog 8 #[.string g, .string a, .string b, .int .i64 st] w fun e w' => e = .returned (.bool true) ∧ Below w.heap.size w w' := by
  go_enter Tryd.func8, Tryd.ntmps8
  go_wp2_with fail
  refine (alive26 _).mono ?_
  rintro e w1 ⟨rfl, hb1⟩
  go_wp2
  go_ret
  exact ⟨rfl, by repeat (with_reducible first | exact Below.refl _ _ | assumption | refine below_al ?_ _ | refine below_set ?_ (by omega) | refine below_drewN ?_ | refine below_dr ?_ | refine below_on ?_ (by assumption))⟩
set_option maxRecDepth 100000 in
set_option maxHeartbeats 4000000 in
theorem sites_a (g a b : ByteArray) (st : Int) (w : World) (T : Int) (hT : wrap64 (wrap64 ((g.size : Int) + (a.size : Int)) + (b.size : Int)) = T) (h1 : ¬ 100 < T) (HP : ∀ w, Calls Tryd.prog 31 #[.string g, .string a, .int .i64 st] w fun e w' => e = .returned (.bool false) ∧ Below w.heap.size w w') :
    Calls Tryd.prog 8 #[.string g, .string a, .string b, .int .i64 st] w fun e w' => e = .returned (.bool true) ∧ Below w.heap.size w w' := by
  go_enter Tryd.func8, Tryd.ntmps8
  go_wp2_with fail
  refine (alive26 _).mono ?_
  rintro e w1 ⟨rfl, hb1⟩
  go_wp2_with fail
  refine (HP _).mono ?_
  rintro e w2 ⟨rfl, hb2⟩
  go_wp2
  go_ret
  exact ⟨rfl, by repeat (with_reducible first | exact Below.refl _ _ | assumption | refine below_al ?_ _ | refine below_set ?_ (by omega) | refine below_drewN ?_ | refine below_dr ?_ | refine below_on ?_ (by assumption))⟩
set_option maxRecDepth 100000 in
set_option maxHeartbeats 4000000 in
theorem sites_b (g a b : ByteArray) (st : Int) (w : World) (T : Int) (hT : wrap64 (wrap64 ((g.size : Int) + (a.size : Int)) + (b.size : Int)) = T) (h1 : ¬ 100 < T) (HP : ∀ w, Calls Tryd.prog 31 #[.string g, .string a, .int .i64 st] w fun e w' => e = .returned (.bool true) ∧ Below w.heap.size w w') (HQ : ∀ w, Calls Tryd.prog 31 #[.string g, .string b, .int .i64 0] w fun e w' => e = .returned (.bool false) ∧ Below w.heap.size w w') :
    Calls Tryd.prog 8 #[.string g, .string a, .string b, .int .i64 st] w fun e w' => e = .returned (.bool true) ∧ Below w.heap.size w w' := by
  go_enter Tryd.func8, Tryd.ntmps8
  go_wp2_with fail
  refine (alive26 _).mono ?_
  rintro e w1 ⟨rfl, hb1⟩
  go_wp2_with fail
  refine (HP _).mono ?_
  rintro e w2 ⟨rfl, hb2⟩
  go_wp2_with fail
  refine (HQ _).mono ?_
  rintro e w3 ⟨rfl, hb3⟩
  go_wp2
  go_ret
  exact ⟨rfl, by repeat (with_reducible first | exact Below.refl _ _ | assumption | refine below_al ?_ _ | refine below_set ?_ (by omega) | refine below_drewN ?_ | refine below_dr ?_ | refine below_on ?_ (by assumption))⟩
set_option maxRecDepth 100000 in
set_option maxHeartbeats 4000000 in
theorem sites_c (g a b : ByteArray) (st : Int) (w : World) (T : Int) (hT : wrap64 (wrap64 ((g.size : Int) + (a.size : Int)) + (b.size : Int)) = T) (h1 : ¬ 100 < T) (x1 y1 x2 y2 x3 y3 t3 : Int) (tx : ByteArray) (r : Bool) (HP : ∀ w, Calls Tryd.prog 31 #[.string g, .string a, .int .i64 st] w fun e w' => e = .returned (.bool true) ∧ Below w.heap.size w w') (HQ : ∀ w, Calls Tryd.prog 31 #[.string g, .string b, .int .i64 0] w fun e w' => e = .returned (.bool true) ∧ Below w.heap.size w w') (HI : ∀ w, Calls Tryd.prog 30 #[.agg #[.string g, .string a, .int .i64 st]] w fun e w' => e = .returned (.tuple #[.agg #[.int .u64 x1, .int .u64 y1], .int .i64 0]) ∧ Below w.heap.size w w') (HJ : ∀ w, Calls Tryd.prog 30 #[.agg #[.string g, .string b, .int .i64 st]] w fun e w' => e = .returned (.tuple #[.agg #[.int .u64 x2, .int .u64 y2], .int .i64 0]) ∧ Below w.heap.size w w') (HK : ∀ w, Calls Tryd.prog 30 #[.agg #[.string g, .string a, .int .i64 t3]] w fun e w' => e = .returned (.tuple #[.agg #[.int .u64 x3, .int .u64 y3], .int .i64 0]) ∧ Below w.heap.size w w') (HB : ∀ w, Calls Tryd.prog 22 #[.agg #[.int .u64 x1, .int .u64 y1]] w fun e w' => e = .returned (.string tx) ∧ Below w.heap.size w w') (s0 : 0 ≤ st) (s2 : st ≤ 2) (ht3 : (st + 1) % 3 = t3) (H70 : (x1 == x2 && y1 == y2) = r) (H73 : (a.toList == b.toList) = r) (H78 : (!(x1 == x3 && y1 == y3)) = true) (e14 : bt tx 14 = st) (e15 : bt tx 15 = 1) (hsz : tx.size = 16) :
    Calls Tryd.prog 8 #[.string g, .string a, .string b, .int .i64 st] w fun e w' => e = .returned (.bool true) ∧ Below w.heap.size w w' := by
  have hbt := get_bt tx
  have ht3' : (st + 1).tmod 3 = t3 := by rw [Int.tmod_eq_emod_of_nonneg (by omega)]; exact ht3
  go_enter Tryd.func8, Tryd.ntmps8
  go_wp2_with fail
  refine (alive26 _).mono ?_
  rintro e w1 ⟨rfl, hb1⟩
  go_wp2_with fail
  refine (HP _).mono ?_
  rintro e w2 ⟨rfl, hb2⟩
  go_wp2_with fail
  refine (HQ _).mono ?_
  rintro e w3 ⟨rfl, hb3⟩
  go_wp2_with fail
  refine (HI _).mono ?_
  rintro e w4 ⟨rfl, hb4⟩
  have B1 : Blk (w4.alloc (.cells #[.int .u64 x1, .int .u64 y1] 24)) w4.heap.size 24 #[.int .u64 x1, .int .u64 y1] := Blk.new _ _ _
  go_wp2_with fail
  refine (HJ _).mono ?_
  rintro e w5 ⟨rfl, hb5⟩
  have B1 := Blk.carry B1 hb5
  have B2 : Blk (w5.alloc (.cells #[.int .u64 x2, .int .u64 y2] 24)) w5.heap.size 24 #[.int .u64 x2, .int .u64 y2] := Blk.new _ _ _
  go_wp2_with fail
  refine (HK _).mono ?_
  rintro e w6 ⟨rfl, hb6⟩
  have B1 := Blk.carry (B1.alloc _) hb6
  have B2 := Blk.carry B2 hb6
  have B3 : Blk (w6.alloc (.cells #[.int .u64 x3, .int .u64 y3] 24)) w6.heap.size 24 #[.int .u64 x3, .int .u64 y3] := Blk.new _ _ _
  have c0 := cell_of0 B1
  have c1 := cell_of1 B1
  have l1 := B1.lt
  go_wp2_with fail
  refine (HB _).mono ?_
  rintro e w7 ⟨rfl, hb7⟩
  clear c0 c1 l1
  have B1 := Blk.carry (B1.alloc _) hb7
  have B2 := Blk.carry (B2.alloc _) hb7
  have B3 := Blk.carry B3 hb7
  have q1 := cell_of0 B1
  have q2 := cell_of1 B1
  have q3 := cell_of0 B2
  have q4 := cell_of1 B2
  have q5 := cell_of0 B3
  have q6 := cell_of1 B3
  have l1 := B1.lt
  have l2 := B2.lt
  have l3 := B3.lt
  clear B1 B2 B3
  have k1 : (r = true ∧ x1 = x2 ∧ y1 = y2) ∨ (r = false ∧ (x1 == x2) = false) ∨ (r = false ∧ x1 = x2 ∧ (y1 == y2) = false) := by
    subst H70
    by_cases u : x1 = x2
    · by_cases v : y1 = y2
      · exact .inl ⟨by simp [u, v], u, v⟩
      · exact .inr (.inr ⟨by simp [v], u, by simpa using v⟩)
    · exact .inr (.inl ⟨by simp [u], by simpa using u⟩)
  have k2 : (x1 == x3) = false ∨ (x1 = x3 ∧ (y1 == y3) = false) := by
    by_cases u : x1 = x3
    · right
      refine ⟨u, ?_⟩
      simpa [u] using H78
    · left
      simpa using u
  clear H70 H78
  rcases k1 with ⟨rfl, rfl, rfl⟩ | ⟨rfl, u1⟩ | ⟨rfl, rfl, u1⟩ <;> rcases k2 with u2 | ⟨rfl, u2⟩
  all_goals
    go_wp2
    go_ret
    exact ⟨rfl, by repeat (with_reducible first | exact Below.refl _ _ | assumption | refine below_al ?_ _ | refine below_set ?_ (by omega) | refine below_drewN ?_ | refine below_dr ?_ | refine below_on ?_ (by assumption))⟩
theorem idN_at (g s : ByteArray) (st : Int) (j : Nat) (h : j < 8) : bn (bytesOf (idN g s st)) (8 + j) = bn (idText g s st) (8 + j) := by
  rw [bn_bytes _ _ (by omega), ← low_byte (idText g s st) 8 8 j h]
  have h2 := low_64 (idText g s st) 0
  have e : idN g s st / 18446744073709551616 = low (idText g s st) 8 8 := by unfold idN; omega
  rw [← e, Nat.div_div_eq_div_mul, show (18446744073709551616 : Nat) * 2 ^ (8 * j) = 2 ^ (8 * (8 + j)) by rw [show (18446744073709551616 : Nat) = 2 ^ 64 by rfl, ← Nat.pow_add]; congr 1; omega]
theorem plc_parts {g s : ByteArray} {st : Int} (h : isPlace g s st = true) : isName g 10 = true ∧ isName s 4 = true ∧ isState st = true := by
  unfold isPlace at h
  simp only [Bool.and_eq_true] at h
  exact ⟨h.1.1, h.1.2, h.2⟩
theorem plc_make {g s : ByteArray} {st : Int} (h1 : isName g 10 = true) (h2 : isName s 4 = true) (h3 : isState st = true) : isPlace g s st = true := by
  unfold isPlace
  rw [h1, h2, h3]
  rfl
theorem refgood_is (g s : ByteArray) (st : Int) (b : Bool) (w : World) (h : isPlace g s st = b) :
    Calls Tryd.prog 31 #[.string g, .string s, .int .i64 st] w fun e w' => e = .returned (.bool b) ∧ Below w.heap.size w w' := h ▸ refgood_any g s st w
theorem walkShelfSites (g : ByteArray) (hg : g.size ≤ maxLen) (a : ByteArray) (ha : a.size ≤ maxLen) (b : ByteArray) (hb : b.size ≤ maxLen) (st : Int) (_hst : (Lit.int .i64 st).wf = true) (w : World) :
    Calls Tryd.prog 8 #[.string g, .string a, .string b, .int .i64 st] w fun e w' => e = .returned (.bool true) ∧ Below w.heap.size w w' := by
  obtain ⟨T, hT⟩ : ∃ T : Int, wrap64 (wrap64 ((g.size : Int) + (a.size : Int)) + (b.size : Int)) = T := ⟨_, rfl⟩
  by_cases h1 : 100 < T
  · exact sites_l g a b st w T hT h1
  · cases hp : isPlace g a st
    · exact sites_a g a b st w T hT h1 (fun w => refgood_is g a st false w hp)
    · cases hq : isPlace g b 0
      · exact sites_b g a b st w T hT h1 (fun w => refgood_is g a st true w hp) (fun w => refgood_is g b 0 false w hq)
      · obtain ⟨_, _, b3, b4⟩ := plc_bounds hp
        obtain ⟨p1, p2, p3⟩ := plc_parts hp
        obtain ⟨_, q2, _⟩ := plc_parts hq
        have hp2 : isPlace g b st = true := plc_make p1 q2 p3
        have hs3 : isState ((st + 1) % 3) = true := by unfold isState; simp; omega
        have hp3 : isPlace g a ((st + 1) % 3) = true := plc_make p1 p2 hs3
        obtain ⟨n15, n14⟩ := idN_ends hp
        refine sites_c g a b st w T hT h1 (hi (idN g a st)) (lo (idN g a st)) (hi (idN g b st)) (lo (idN g b st)) (hi (idN g a ((st + 1) % 3))) (lo (idN g a ((st + 1) % 3))) ((st + 1) % 3) (bytesOf (idN g a st)) (decide (a = b)) (fun w => refgood_is g a st true w hp) (fun w => refgood_is g b 0 true w hq) (fun w => id_is g a st w hg ha hp) (fun w => id_is g b st w hg hb hp2) (fun w => id_is g a _ w hg ha hp3) (fun w => refbytes_any (idN g a st) w) b3 b4 rfl ?_ ?_ ?_ ?_ ?_ (bytesOf_size _)
        · by_cases e : a = b
          · rw [e, decide_eq_true rfl]; exact same _
          · rw [decide_eq_false e]
            exact differ _ _ fun h => e (id_inj h hp hp2).2.1
        · by_cases e : a = b
          · rw [e, decide_eq_true rfl]; simp
          · rw [decide_eq_false e, beq_eq_false_iff_ne]
            exact toList_ne e
        · rw [differ (idN g a st) (idN g a ((st + 1) % 3)) (fun h => by have := (id_inj h hp hp3).2.2; omega)]; rfl
        · have := idN_at g a st 6 (by omega)
          rw [bt_bn, this, n14]
          omega
        · have := idN_at g a st 7 (by omega)
          rw [bt_bn, this, n15]
          rfl
end Go.Proofs.YtjjlfkbgieloeaaDoor
