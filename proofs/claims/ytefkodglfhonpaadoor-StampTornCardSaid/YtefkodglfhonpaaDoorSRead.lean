/- The walk of stamp.Read. Conditions: none. -/
import Derived.Test.YtefkodglfhonpaaDoorSBytes
import Derived.Deep.RegionWith
namespace Go.Proofs.YtefkodglfhonpaaDoor
open Go.RowKit Go.PlainAid
set_option linter.unusedVariables false
set_option linter.unusedSimpArgs false
attribute [local go_sem ↓] Go.wp_at_zero Go.wp_at_succ
theorem below_al {w a : World} (h : Below w.heap.size w a) (o : Obj) : Below w.heap.size w (a.alloc o) := h.alloc h.size o
theorem below_dr {w a : World} (h : Below w.heap.size w a) : Below w.heap.size w a.drew := h.drew
theorem below_drewN {w a : World} {n : Nat} (h : Below w.heap.size w a) : Below w.heap.size w (a.drewN n) := h.trans ⟨rfl, rfl, rfl, Nat.le_refl _, fun _ _ => rfl⟩
theorem below_set {w a : World} {g i : Nat} {v : Value} (h : Below w.heap.size w a) (hg : w.heap.size ≤ g) : Below w.heap.size w (a.setCell ⟨g, i, none⟩ v) := h.setCell hg v
theorem below_gr {w a b : World} {r : Nat} (h : Below w.heap.size w a) (hg : a.grownBy b (some r)) (hr : w.heap.size ≤ r) : Below w.heap.size w b := h.grown hg h.size (fun k hk => by injection hk with hk; omega)
theorem blk_gr {w w' : World} {g r : Nat} {t : TypeId} {cs : Array Value} (h : Blk w g t cs) (hb : w.grownBy w' (some r)) (hg : g ≠ r) : Blk w' g t cs := h.grown hb (by simpa using hg)
set_option maxRecDepth 100000 in
set_option maxHeartbeats 4000000 in
theorem read_a (s : ByteArray) (w : World) (hsz : ¬ s.size = 128) :
    Calls Tryd.prog 7 #[.string s] w fun e w' => e = .returned (.tuple #[.agg #[.int .i64 0, .int .i64 0, .string ⟨#[]⟩], .bool false]) ∧ Below w.heap.size w w' := by
  have Br0 := Blk.new w 24 #[.int .i64 0, .int .i64 0, .string ⟨#[]⟩]
  have h1 : ((s.size : Int) == 128) = false := by simp; omega
  have h2 : ((s.size : Int) != 128) = true := by simp; omega
  have Br := Br0
  obtain ⟨z0, z1, z2⟩ := leaf_cells Br
  have g0 := Br.frozen 0
  have g1 := Br.frozen 1
  have g2 := Br.frozen 2
  have lr := Br.lt
  go_enter Tryd.func7, Tryd.ntmps7
  go_wp2
  have Bf := ((Br.set_ 0 (.int .i64 0)).set_ 1 (.int .i64 0)).set_ 2 (.string ⟨#[]⟩)
  obtain ⟨q0, q1, q2⟩ := leaf_cells Bf
  exact bodyPost_ret (v := .tuple #[.agg #[.int .i64 0, .int .i64 0, .string ⟨#[]⟩], .bool false]) (by simp [results, Tryd.results7, go_sem, q0, q1, q2]) rfl ⟨rfl, by repeat (with_reducible first | exact Below.refl _ _ | assumption | refine below_al ?_ _ | refine below_set ?_ (by omega) | refine below_drewN ?_ | refine below_dr ?_ | refine below_on ?_ (by assumption))⟩
set_option maxRecDepth 100000 in
set_option maxHeartbeats 4000000 in
theorem read_b (s : ByteArray) (w : World) (hsz : s.size = 128) (HH : ∀ w, Calls Tryd.prog 12 #[.string (s.extract 0 120)] w fun e w' => e = .returned (.bool false) ∧ Below w.heap.size w w') :
    Calls Tryd.prog 7 #[.string s] w fun e w' => e = .returned (.tuple #[.agg #[.int .i64 0, .int .i64 0, .string ⟨#[]⟩], .bool false]) ∧ Below w.heap.size w w' := by
  have h1 : ((s.size : Int) == 128) = true := by simp; omega
  have h2 : ((s.size : Int) != 128) = false := by simp; omega
  have Br0 := Blk.new w 24 #[.int .i64 0, .int .i64 0, .string ⟨#[]⟩]
  go_enter Tryd.func7, Tryd.ntmps7
  go_wp2_with fail
  refine (HH _).mono ?_
  rintro e w1 ⟨rfl, hb1⟩
  have Br := Br0.below hb1 Br0.lt
  have hB := below_on (below_al (Below.refl _ w) (.cells #[.int .i64 0, .int .i64 0, .string ⟨#[]⟩] 24)) hb1
  clear Br0 hb1
  obtain ⟨z0, z1, z2⟩ := leaf_cells Br
  have g0 := Br.frozen 0
  have g1 := Br.frozen 1
  have g2 := Br.frozen 2
  have lr := Br.lt
  go_wp2
  have Bf := ((Br.set_ 0 (.int .i64 0)).set_ 1 (.int .i64 0)).set_ 2 (.string ⟨#[]⟩)
  obtain ⟨q0, q1, q2⟩ := leaf_cells Bf
  exact bodyPost_ret (v := .tuple #[.agg #[.int .i64 0, .int .i64 0, .string ⟨#[]⟩], .bool false]) (by simp [results, Tryd.results7, go_sem, q0, q1, q2]) rfl ⟨rfl, by repeat (with_reducible first | exact Below.refl _ _ | assumption | refine below_al ?_ _ | refine below_set ?_ (by omega) | refine below_drewN ?_ | refine below_dr ?_ | refine below_on ?_ (by assumption))⟩
set_option maxRecDepth 100000 in
set_option maxHeartbeats 4000000 in
theorem read_c (s s1 s2 s3 s4 s5 s6 s7 d rest j4 tr : ByteArray) (n i last : Int) (k c : Nat) (w : World) (hsz : s.size = 128) (HH : ∀ w, Calls Tryd.prog 12 #[.string (s.extract 0 120)] w fun e w' => e = .returned (.bool true) ∧ Below w.heap.size w w') (HR1 : ∀ w r, Blk w r 54 #[.string s, .bool false] → Calls Tryd.prog 14 #[.pointer (some ⟨r, 0, none⟩), .int .i64 8] w fun e w' => e = .returned (.int .i64 n) ∧ Blk w' r 54 #[.string s1, .bool false] ∧ w.grownBy w' (some r)) (HR2 : ∀ w r, Blk w r 54 #[.string s1, .bool false] → Calls Tryd.prog 14 #[.pointer (some ⟨r, 0, none⟩), .int .i64 2] w fun e w' => e = .returned (.int .i64 i) ∧ Blk w' r 54 #[.string s2, .bool false] ∧ w.grownBy w' (some r)) (HR3 : ∀ w r, Blk w r 54 #[.string s2, .bool false] → Calls Tryd.prog 14 #[.pointer (some ⟨r, 0, none⟩), .int .i64 2] w fun e w' => e = .returned (.int .i64 (k : Int)) ∧ Blk w' r 54 #[.string s3, .bool false] ∧ w.grownBy w' (some r)) (hk : 104 < k) :
    Calls Tryd.prog 7 #[.string s] w fun e w' => e = .returned (.tuple #[.agg #[.int .i64 0, .int .i64 0, .string ⟨#[]⟩], .bool false]) ∧ Below w.heap.size w w' := by
  have h1 : ((s.size : Int) == 128) = true := by simp; omega
  have h2 : ((s.size : Int) != 128) = false := by simp; omega
  have Br0 := Blk.new w 24 #[.int .i64 0, .int .i64 0, .string ⟨#[]⟩]
  go_enter Tryd.func7, Tryd.ntmps7
  go_wp2_with fail
  refine (HH _).mono ?_
  rintro e w1 ⟨rfl, hb1⟩
  have Br := Br0.below hb1 Br0.lt
  have hB := below_on (below_al (Below.refl _ w) (.cells #[.int .i64 0, .int .i64 0, .string ⟨#[]⟩] 24)) hb1
  clear Br0 hb1
  go_wp2_with fail
  refine (read_any s _).mono ?_
  rintro e w2 ⟨rfl, rfl⟩
  have Bd : Blk (w1.alloc (.cells #[.string s, .bool false] 54)) w1.heap.size 54 #[.string s, .bool false] := Blk.new _ _ _
  have Br := Br.alloc (.cells #[.string s, .bool false] 54)
  have hB2 := below_al hB (.cells #[.string s, .bool false] 54)
  have ld := hB.size
  have lr0 : w.heap.size < w1.heap.size := by have := ‹Blk w1 w.heap.size 24 _›.lt; exact this
  clear hB
  have hB := hB2
  clear hB2
  generalize (w1.alloc (.cells #[.string s, .bool false] 54)) = W at *
  generalize w1.heap.size = r at *
  go_wp2_with fail
  refine (HR1 _ r Bd).mono ?_
  rintro e w3 ⟨rfl, Bd3, hg3⟩
  have Br3 := blk_gr Br hg3 (by omega)
  have hB3 := below_gr hB hg3 (by omega)
  clear Bd Br hB hg3
  have Bd := Bd3
  have Br := Br3
  have hB := hB3
  clear Bd3 Br3 hB3
  go_wp2_with fail
  refine (HR2 _ r Bd).mono ?_
  rintro e w4 ⟨rfl, Bd4, hg4⟩
  have Br4 := blk_gr Br hg4 (by omega)
  have hB4 := below_gr hB hg4 (by omega)
  clear Bd Br hB hg4
  have Bd := Bd4
  have Br := Br4
  have hB := hB4
  clear Bd4 Br4 hB4
  have lr2 : r < w4.heap.size := Bd.lt
  go_wp2_with fail
  have Bl : Blk (w4.alloc (.cells #[.int .i64 n, .int .i64 i, .string ⟨#[]⟩] 24)) w4.heap.size 24 #[.int .i64 n, .int .i64 i, .string ⟨#[]⟩] := Blk.new _ _ _
  have Bd2 := Bd.alloc (.cells #[.int .i64 n, .int .i64 i, .string ⟨#[]⟩] 24)
  have Br2 := Br.alloc (.cells #[.int .i64 n, .int .i64 i, .string ⟨#[]⟩] 24)
  have hB2 := below_al hB (.cells #[.int .i64 n, .int .i64 i, .string ⟨#[]⟩] 24)
  have ll : w4.heap.size < (w4.alloc (.cells #[.int .i64 n, .int .i64 i, .string ⟨#[]⟩] 24)).heap.size := by simp
  clear Bd Br hB
  have Bd := Bd2
  have Br := Br2
  have hB := hB2
  clear Bd2 Br2 hB2
  generalize (w4.alloc (.cells #[.int .i64 n, .int .i64 i, .string ⟨#[]⟩] 24)) = W4 at *
  generalize w4.heap.size = lf at *
  go_wp2_with fail
  refine (HR3 _ r Bd).mono ?_
  rintro e w5 ⟨rfl, Bd5, hg5⟩
  have Br5 := blk_gr Br hg5 (by omega)
  have Bl5 := blk_gr Bl hg5 (by omega)
  have hB5 := below_gr hB hg5 (by omega)
  have ll5 := Nat.lt_of_lt_of_le ll hg5.size
  clear Bd Br hB hg5 Bl ll
  have Bd := Bd5
  have Br := Br5
  have hB := hB5
  have Bl := Bl5
  have ll := ll5
  clear Bd5 Br5 hB5 Bl5 ll5
  obtain ⟨z0, z1, z2⟩ := leaf_cells Br
  have g0 := Br.frozen 0
  have g1 := Br.frozen 1
  have g2 := Br.frozen 2
  have lr := Br.lt
  go_wp2
  have Bf := ((Br.set_ 0 (.int .i64 0)).set_ 1 (.int .i64 0)).set_ 2 (.string ⟨#[]⟩)
  obtain ⟨q0, q1, q2⟩ := leaf_cells Bf
  exact bodyPost_ret (v := .tuple #[.agg #[.int .i64 0, .int .i64 0, .string ⟨#[]⟩], .bool false]) (by simp [results, Tryd.results7, go_sem, q0, q1, q2]) rfl ⟨rfl, by repeat (with_reducible first | exact Below.refl _ _ | assumption | refine below_al ?_ _ | refine below_set ?_ (by omega) | refine below_drewN ?_ | refine below_dr ?_ | refine below_on ?_ (by assumption))⟩
set_option maxRecDepth 100000 in
set_option maxHeartbeats 4000000 in
theorem read_d (s s1 s2 s3 s4 s5 s6 s7 d rest j4 tr : ByteArray) (n i last : Int) (k c : Nat) (w : World) (hsz : s.size = 128) (HH : ∀ w, Calls Tryd.prog 12 #[.string (s.extract 0 120)] w fun e w' => e = .returned (.bool true) ∧ Below w.heap.size w w') (HR1 : ∀ w r, Blk w r 54 #[.string s, .bool false] → Calls Tryd.prog 14 #[.pointer (some ⟨r, 0, none⟩), .int .i64 8] w fun e w' => e = .returned (.int .i64 n) ∧ Blk w' r 54 #[.string s1, .bool false] ∧ w.grownBy w' (some r)) (HR2 : ∀ w r, Blk w r 54 #[.string s1, .bool false] → Calls Tryd.prog 14 #[.pointer (some ⟨r, 0, none⟩), .int .i64 2] w fun e w' => e = .returned (.int .i64 i) ∧ Blk w' r 54 #[.string s2, .bool false] ∧ w.grownBy w' (some r)) (HR3 : ∀ w r, Blk w r 54 #[.string s2, .bool false] → Calls Tryd.prog 14 #[.pointer (some ⟨r, 0, none⟩), .int .i64 2] w fun e w' => e = .returned (.int .i64 (k : Int)) ∧ Blk w' r 54 #[.string s3, .bool false] ∧ w.grownBy w' (some r)) (HR4 : ∀ w r, Blk w r 54 #[.string s3, .bool false] → Calls Tryd.prog 15 #[.pointer (some ⟨r, 0, none⟩), .int .i64 k] w fun e w' => e = .returned (.string d) ∧ Blk w' r 54 #[.string s4, .bool false] ∧ w.grownBy w' (some r)) (HR5 : ∀ w r, Blk w r 54 #[.string s4, .bool false] → Calls Tryd.prog 15 #[.pointer (some ⟨r, 0, none⟩), .int .i64 c] w fun e w' => e = .returned (.string rest) ∧ Blk w' r 54 #[.string s5, .bool false] ∧ w.grownBy w' (some r)) (HR6 : ∀ w r, Blk w r 54 #[.string s5, .bool false] → Calls Tryd.prog 15 #[.pointer (some ⟨r, 0, none⟩), .int .i64 4] w fun e w' => e = .returned (.string j4) ∧ Blk w' r 54 #[.string s6, .bool false] ∧ w.grownBy w' (some r)) (HR7 : ∀ w r, Blk w r 54 #[.string s6, .bool false] → Calls Tryd.prog 14 #[.pointer (some ⟨r, 0, none⟩), .int .i64 8] w fun e w' => e = .returned (.int .i64 last) ∧ Blk w' r 54 #[.string s7, .bool false] ∧ w.grownBy w' (some r)) (hc : (104 : Int) - (k : Int) = (c : Int)) (hk : k ≤ 104) (hne : (last == n) = false) (hne2 : (last != n) = true) :
    Calls Tryd.prog 7 #[.string s] w fun e w' => e = .returned (.tuple #[.agg #[.int .i64 0, .int .i64 0, .string ⟨#[]⟩], .bool false]) ∧ Below w.heap.size w w' := by
  have h1 : ((s.size : Int) == 128) = true := by simp; omega
  have h2 : ((s.size : Int) != 128) = false := by simp; omega
  have Br0 := Blk.new w 24 #[.int .i64 0, .int .i64 0, .string ⟨#[]⟩]
  go_enter Tryd.func7, Tryd.ntmps7
  go_wp2_with fail
  refine (HH _).mono ?_
  rintro e w1 ⟨rfl, hb1⟩
  have Br := Br0.below hb1 Br0.lt
  have hB := below_on (below_al (Below.refl _ w) (.cells #[.int .i64 0, .int .i64 0, .string ⟨#[]⟩] 24)) hb1
  clear Br0 hb1
  go_wp2_with fail
  refine (read_any s _).mono ?_
  rintro e w2 ⟨rfl, rfl⟩
  have Bd : Blk (w1.alloc (.cells #[.string s, .bool false] 54)) w1.heap.size 54 #[.string s, .bool false] := Blk.new _ _ _
  have Br := Br.alloc (.cells #[.string s, .bool false] 54)
  have hB2 := below_al hB (.cells #[.string s, .bool false] 54)
  have ld := hB.size
  have lr0 : w.heap.size < w1.heap.size := by have := ‹Blk w1 w.heap.size 24 _›.lt; exact this
  clear hB
  have hB := hB2
  clear hB2
  generalize (w1.alloc (.cells #[.string s, .bool false] 54)) = W at *
  generalize w1.heap.size = r at *
  go_wp2_with fail
  refine (HR1 _ r Bd).mono ?_
  rintro e w3 ⟨rfl, Bd3, hg3⟩
  have Br3 := blk_gr Br hg3 (by omega)
  have hB3 := below_gr hB hg3 (by omega)
  clear Bd Br hB hg3
  have Bd := Bd3
  have Br := Br3
  have hB := hB3
  clear Bd3 Br3 hB3
  go_wp2_with fail
  refine (HR2 _ r Bd).mono ?_
  rintro e w4 ⟨rfl, Bd4, hg4⟩
  have Br4 := blk_gr Br hg4 (by omega)
  have hB4 := below_gr hB hg4 (by omega)
  clear Bd Br hB hg4
  have Bd := Bd4
  have Br := Br4
  have hB := hB4
  clear Bd4 Br4 hB4
  have lr2 : r < w4.heap.size := Bd.lt
  go_wp2_with fail
  have Bl : Blk (w4.alloc (.cells #[.int .i64 n, .int .i64 i, .string ⟨#[]⟩] 24)) w4.heap.size 24 #[.int .i64 n, .int .i64 i, .string ⟨#[]⟩] := Blk.new _ _ _
  have Bd2 := Bd.alloc (.cells #[.int .i64 n, .int .i64 i, .string ⟨#[]⟩] 24)
  have Br2 := Br.alloc (.cells #[.int .i64 n, .int .i64 i, .string ⟨#[]⟩] 24)
  have hB2 := below_al hB (.cells #[.int .i64 n, .int .i64 i, .string ⟨#[]⟩] 24)
  have ll : w4.heap.size < (w4.alloc (.cells #[.int .i64 n, .int .i64 i, .string ⟨#[]⟩] 24)).heap.size := by simp
  clear Bd Br hB
  have Bd := Bd2
  have Br := Br2
  have hB := hB2
  clear Bd2 Br2 hB2
  generalize (w4.alloc (.cells #[.int .i64 n, .int .i64 i, .string ⟨#[]⟩] 24)) = W4 at *
  generalize w4.heap.size = lf at *
  go_wp2_with fail
  refine (HR3 _ r Bd).mono ?_
  rintro e w5 ⟨rfl, Bd5, hg5⟩
  have Br5 := blk_gr Br hg5 (by omega)
  have Bl5 := blk_gr Bl hg5 (by omega)
  have hB5 := below_gr hB hg5 (by omega)
  have ll5 := Nat.lt_of_lt_of_le ll hg5.size
  clear Bd Br hB hg5 Bl ll
  have Bd := Bd5
  have Br := Br5
  have hB := hB5
  have Bl := Bl5
  have ll := ll5
  clear Bd5 Br5 hB5 Bl5 ll5
  go_wp2_with fail
  refine (HR4 _ r Bd).mono ?_
  rintro e w6 ⟨rfl, Bd6, hg6⟩
  have Br6 := blk_gr Br hg6 (by omega)
  have Bl6 := blk_gr Bl hg6 (by omega)
  have hB6 := below_gr hB hg6 (by omega)
  have ll6 := Nat.lt_of_lt_of_le ll hg6.size
  clear Bd Br hB hg6 Bl ll
  have Bd := Bd6
  have Br := Br6
  have hB := hB6
  have Bl := Bl6
  have ll := ll6
  clear Bd6 Br6 hB6 Bl6 ll6
  obtain ⟨c0, c1, c2⟩ := leaf_cells Bl
  have f0 := Bl.frozen 0
  have f1 := Bl.frozen 1
  have f2 := Bl.frozen 2
  go_wp2_with fail
  have Bl2 := Bl.set_ 2 (.string d)
  have Bd2 := Bd.far (p := ⟨lf, 2, none⟩) (by simp; omega) (.string d)
  have Br2 := Br.far (p := ⟨lf, 2, none⟩) (by simp; omega) (.string d)
  have hB2 := below_set (i := 2) (v := .string d) hB (show w.heap.size ≤ lf by omega)
  have ll2 : lf < (w6.setCell ⟨lf, 2, none⟩ (.string d)).heap.size := by simpa [World.setCell] using ll
  clear Bl Bd Br hB c0 c1 c2 f0 f1 f2 ll
  have Bl := Bl2
  have Bd := Bd2
  have Br := Br2
  have hB := hB2
  have ll := ll2
  clear Bl2 Bd2 Br2 hB2 ll2
  generalize (w6.setCell ⟨lf, 2, none⟩ (.string d)) = W6 at *
  go_wp2_with fail
  refine (HR5 _ r Bd).mono ?_
  rintro e w7 ⟨rfl, Bd7, hg7⟩
  have Br7 := blk_gr Br hg7 (by omega)
  have Bl7 := blk_gr Bl hg7 (by omega)
  have hB7 := below_gr hB hg7 (by omega)
  have ll7 := Nat.lt_of_lt_of_le ll hg7.size
  clear Bd Br hB hg7 Bl ll
  have Bd := Bd7
  have Br := Br7
  have hB := hB7
  have Bl := Bl7
  have ll := ll7
  clear Bd7 Br7 hB7 Bl7 ll7
  go_wp2_with fail
  refine (HR6 _ r Bd).mono ?_
  rintro e w8 ⟨rfl, Bd8, hg8⟩
  have Br8 := blk_gr Br hg8 (by omega)
  have Bl8 := blk_gr Bl hg8 (by omega)
  have hB8 := below_gr hB hg8 (by omega)
  have ll8 := Nat.lt_of_lt_of_le ll hg8.size
  clear Bd Br hB hg8 Bl ll
  have Bd := Bd8
  have Br := Br8
  have hB := hB8
  have Bl := Bl8
  have ll := ll8
  clear Bd8 Br8 hB8 Bl8 ll8
  obtain ⟨c0, c1, c2⟩ := leaf_cells Bl
  go_wp2_with fail
  first | (go_region_with (first | (go_at_call 14; (with_reducible refine (HR7 _ r ?_).mono ?_); (first | exact Bd | exact Bd.drew); rintro e w9 ⟨rfl, Bd9, hg9⟩; have Bl9 := blk_gr Bl.drew hg9 (by omega); have Br9 := blk_gr Br.drew hg9 (by omega); have hB9 := below_gr (below_dr hB) hg9 (by omega); obtain ⟨a0, a1, a2⟩ := leaf_cells Bl9; have ll9 := Bl9.lt))) | fail
  all_goals
    clear c0 c1 c2
    have Br := Br9
    have Bl := Bl9
    have hB := hB9
    clear Br9 Bl9 hB9
    obtain ⟨z0, z1, z2⟩ := leaf_cells Br
    have g0 := Br.frozen 0
    have g1 := Br.frozen 1
    have g2 := Br.frozen 2
    have lr := Br.lt
    go_wp2
    have Bf := ((Br.set_ 0 (.int .i64 0)).set_ 1 (.int .i64 0)).set_ 2 (.string ⟨#[]⟩)
    obtain ⟨q0, q1, q2⟩ := leaf_cells Bf
    exact bodyPost_ret (v := .tuple #[.agg #[.int .i64 0, .int .i64 0, .string ⟨#[]⟩], .bool false]) (by simp [results, Tryd.results7, go_sem, q0, q1, q2]) rfl ⟨rfl, by repeat (with_reducible first | exact Below.refl _ _ | assumption | refine below_al ?_ _ | refine below_set ?_ (by omega) | refine below_drewN ?_ | refine below_dr ?_ | refine below_on ?_ (by assumption))⟩
set_option maxRecDepth 100000 in
set_option maxHeartbeats 4000000 in
theorem read_e (s s1 s2 s3 s4 s5 s6 s7 d rest j4 tr : ByteArray) (n i last : Int) (k c : Nat) (w : World) (hsz : s.size = 128) (HH : ∀ w, Calls Tryd.prog 12 #[.string (s.extract 0 120)] w fun e w' => e = .returned (.bool true) ∧ Below w.heap.size w w') (HR1 : ∀ w r, Blk w r 54 #[.string s, .bool false] → Calls Tryd.prog 14 #[.pointer (some ⟨r, 0, none⟩), .int .i64 8] w fun e w' => e = .returned (.int .i64 n) ∧ Blk w' r 54 #[.string s1, .bool false] ∧ w.grownBy w' (some r)) (HR2 : ∀ w r, Blk w r 54 #[.string s1, .bool false] → Calls Tryd.prog 14 #[.pointer (some ⟨r, 0, none⟩), .int .i64 2] w fun e w' => e = .returned (.int .i64 i) ∧ Blk w' r 54 #[.string s2, .bool false] ∧ w.grownBy w' (some r)) (HR3 : ∀ w r, Blk w r 54 #[.string s2, .bool false] → Calls Tryd.prog 14 #[.pointer (some ⟨r, 0, none⟩), .int .i64 2] w fun e w' => e = .returned (.int .i64 (k : Int)) ∧ Blk w' r 54 #[.string s3, .bool false] ∧ w.grownBy w' (some r)) (HR4 : ∀ w r, Blk w r 54 #[.string s3, .bool false] → Calls Tryd.prog 15 #[.pointer (some ⟨r, 0, none⟩), .int .i64 k] w fun e w' => e = .returned (.string d) ∧ Blk w' r 54 #[.string s4, .bool false] ∧ w.grownBy w' (some r)) (HR5 : ∀ w r, Blk w r 54 #[.string s4, .bool false] → Calls Tryd.prog 15 #[.pointer (some ⟨r, 0, none⟩), .int .i64 c] w fun e w' => e = .returned (.string rest) ∧ Blk w' r 54 #[.string s5, .bool false] ∧ w.grownBy w' (some r)) (HR6 : ∀ w r, Blk w r 54 #[.string s5, .bool false] → Calls Tryd.prog 15 #[.pointer (some ⟨r, 0, none⟩), .int .i64 4] w fun e w' => e = .returned (.string j4) ∧ Blk w' r 54 #[.string s6, .bool false] ∧ w.grownBy w' (some r)) (HR7 : ∀ w r, Blk w r 54 #[.string s6, .bool false] → Calls Tryd.prog 14 #[.pointer (some ⟨r, 0, none⟩), .int .i64 8] w fun e w' => e = .returned (.int .i64 n) ∧ Blk w' r 54 #[.string s7, .bool false] ∧ w.grownBy w' (some r)) (HT : ∀ w, Calls Tryd.prog 16 #[.string rest, .string ⟨#[0]⟩] w fun e w' => e = .returned (.string tr) ∧ Below w.heap.size w w') (hc : (104 : Int) - (k : Int) = (c : Int)) (hk : k ≤ 104) (htr : tr.toList.isEmpty = false) :
    Calls Tryd.prog 7 #[.string s] w fun e w' => e = .returned (.tuple #[.agg #[.int .i64 0, .int .i64 0, .string ⟨#[]⟩], .bool false]) ∧ Below w.heap.size w w' := by
  have he1 : (n == n) = true := by simp
  have he2 : (n != n) = false := by simp
  have h1 : ((s.size : Int) == 128) = true := by simp; omega
  have h2 : ((s.size : Int) != 128) = false := by simp; omega
  have Br0 := Blk.new w 24 #[.int .i64 0, .int .i64 0, .string ⟨#[]⟩]
  go_enter Tryd.func7, Tryd.ntmps7
  go_wp2_with fail
  refine (HH _).mono ?_
  rintro e w1 ⟨rfl, hb1⟩
  have Br := Br0.below hb1 Br0.lt
  have hB := below_on (below_al (Below.refl _ w) (.cells #[.int .i64 0, .int .i64 0, .string ⟨#[]⟩] 24)) hb1
  clear Br0 hb1
  go_wp2_with fail
  refine (read_any s _).mono ?_
  rintro e w2 ⟨rfl, rfl⟩
  have Bd : Blk (w1.alloc (.cells #[.string s, .bool false] 54)) w1.heap.size 54 #[.string s, .bool false] := Blk.new _ _ _
  have Br := Br.alloc (.cells #[.string s, .bool false] 54)
  have hB2 := below_al hB (.cells #[.string s, .bool false] 54)
  have ld := hB.size
  have lr0 : w.heap.size < w1.heap.size := by have := ‹Blk w1 w.heap.size 24 _›.lt; exact this
  clear hB
  have hB := hB2
  clear hB2
  generalize (w1.alloc (.cells #[.string s, .bool false] 54)) = W at *
  generalize w1.heap.size = r at *
  go_wp2_with fail
  refine (HR1 _ r Bd).mono ?_
  rintro e w3 ⟨rfl, Bd3, hg3⟩
  have Br3 := blk_gr Br hg3 (by omega)
  have hB3 := below_gr hB hg3 (by omega)
  clear Bd Br hB hg3
  have Bd := Bd3
  have Br := Br3
  have hB := hB3
  clear Bd3 Br3 hB3
  go_wp2_with fail
  refine (HR2 _ r Bd).mono ?_
  rintro e w4 ⟨rfl, Bd4, hg4⟩
  have Br4 := blk_gr Br hg4 (by omega)
  have hB4 := below_gr hB hg4 (by omega)
  clear Bd Br hB hg4
  have Bd := Bd4
  have Br := Br4
  have hB := hB4
  clear Bd4 Br4 hB4
  have lr2 : r < w4.heap.size := Bd.lt
  go_wp2_with fail
  have Bl : Blk (w4.alloc (.cells #[.int .i64 n, .int .i64 i, .string ⟨#[]⟩] 24)) w4.heap.size 24 #[.int .i64 n, .int .i64 i, .string ⟨#[]⟩] := Blk.new _ _ _
  have Bd2 := Bd.alloc (.cells #[.int .i64 n, .int .i64 i, .string ⟨#[]⟩] 24)
  have Br2 := Br.alloc (.cells #[.int .i64 n, .int .i64 i, .string ⟨#[]⟩] 24)
  have hB2 := below_al hB (.cells #[.int .i64 n, .int .i64 i, .string ⟨#[]⟩] 24)
  have ll : w4.heap.size < (w4.alloc (.cells #[.int .i64 n, .int .i64 i, .string ⟨#[]⟩] 24)).heap.size := by simp
  clear Bd Br hB
  have Bd := Bd2
  have Br := Br2
  have hB := hB2
  clear Bd2 Br2 hB2
  generalize (w4.alloc (.cells #[.int .i64 n, .int .i64 i, .string ⟨#[]⟩] 24)) = W4 at *
  generalize w4.heap.size = lf at *
  go_wp2_with fail
  refine (HR3 _ r Bd).mono ?_
  rintro e w5 ⟨rfl, Bd5, hg5⟩
  have Br5 := blk_gr Br hg5 (by omega)
  have Bl5 := blk_gr Bl hg5 (by omega)
  have hB5 := below_gr hB hg5 (by omega)
  have ll5 := Nat.lt_of_lt_of_le ll hg5.size
  clear Bd Br hB hg5 Bl ll
  have Bd := Bd5
  have Br := Br5
  have hB := hB5
  have Bl := Bl5
  have ll := ll5
  clear Bd5 Br5 hB5 Bl5 ll5
  go_wp2_with fail
  refine (HR4 _ r Bd).mono ?_
  rintro e w6 ⟨rfl, Bd6, hg6⟩
  have Br6 := blk_gr Br hg6 (by omega)
  have Bl6 := blk_gr Bl hg6 (by omega)
  have hB6 := below_gr hB hg6 (by omega)
  have ll6 := Nat.lt_of_lt_of_le ll hg6.size
  clear Bd Br hB hg6 Bl ll
  have Bd := Bd6
  have Br := Br6
  have hB := hB6
  have Bl := Bl6
  have ll := ll6
  clear Bd6 Br6 hB6 Bl6 ll6
  obtain ⟨c0, c1, c2⟩ := leaf_cells Bl
  have f0 := Bl.frozen 0
  have f1 := Bl.frozen 1
  have f2 := Bl.frozen 2
  go_wp2_with fail
  have Bl2 := Bl.set_ 2 (.string d)
  have Bd2 := Bd.far (p := ⟨lf, 2, none⟩) (by simp; omega) (.string d)
  have Br2 := Br.far (p := ⟨lf, 2, none⟩) (by simp; omega) (.string d)
  have hB2 := below_set (i := 2) (v := .string d) hB (show w.heap.size ≤ lf by omega)
  have ll2 : lf < (w6.setCell ⟨lf, 2, none⟩ (.string d)).heap.size := by simpa [World.setCell] using ll
  clear Bl Bd Br hB c0 c1 c2 f0 f1 f2 ll
  have Bl := Bl2
  have Bd := Bd2
  have Br := Br2
  have hB := hB2
  have ll := ll2
  clear Bl2 Bd2 Br2 hB2 ll2
  generalize (w6.setCell ⟨lf, 2, none⟩ (.string d)) = W6 at *
  go_wp2_with fail
  refine (HR5 _ r Bd).mono ?_
  rintro e w7 ⟨rfl, Bd7, hg7⟩
  have Br7 := blk_gr Br hg7 (by omega)
  have Bl7 := blk_gr Bl hg7 (by omega)
  have hB7 := below_gr hB hg7 (by omega)
  have ll7 := Nat.lt_of_lt_of_le ll hg7.size
  clear Bd Br hB hg7 Bl ll
  have Bd := Bd7
  have Br := Br7
  have hB := hB7
  have Bl := Bl7
  have ll := ll7
  clear Bd7 Br7 hB7 Bl7 ll7
  go_wp2_with fail
  refine (HR6 _ r Bd).mono ?_
  rintro e w8 ⟨rfl, Bd8, hg8⟩
  have Br8 := blk_gr Br hg8 (by omega)
  have Bl8 := blk_gr Bl hg8 (by omega)
  have hB8 := below_gr hB hg8 (by omega)
  have ll8 := Nat.lt_of_lt_of_le ll hg8.size
  clear Bd Br hB hg8 Bl ll
  have Bd := Bd8
  have Br := Br8
  have hB := hB8
  have Bl := Bl8
  have ll := ll8
  clear Bd8 Br8 hB8 Bl8 ll8
  obtain ⟨c0, c1, c2⟩ := leaf_cells Bl
  go_wp2_with fail
  first | (go_region_with (first | (go_at_call 14; (with_reducible refine (HR7 _ r ?_).mono ?_); (first | exact Bd | exact Bd.drew); rintro e w9 ⟨rfl, Bd9, hg9⟩; have Bl9 := blk_gr Bl.drew hg9 (by omega); have Br9 := blk_gr Br.drew hg9 (by omega); have hB9 := below_gr (below_dr hB) hg9 (by omega); obtain ⟨a0, a1, a2⟩ := leaf_cells Bl9; have ll9 := Bl9.lt) | (go_at_call 16; (with_reducible refine (HT _).mono ?_); rintro e w10 ⟨rfl, hb10⟩; have Bl10 := Bl9.below hb10 Bl9.lt; have Br10 := Br9.below hb10 Br9.lt; have hB10 := below_on hB9 hb10; obtain ⟨x0, x1, x2⟩ := leaf_cells Bl10; have ll10 := Bl10.lt))) | fail
  all_goals
    clear c0 c1 c2
    clear a0 a1 a2
    have Br := Br10
    have Bl := Bl10
    have hB := hB10
    clear Br9 Bl9 hB9 Br10 Bl10 hB10
    obtain ⟨z0, z1, z2⟩ := leaf_cells Br
    have g0 := Br.frozen 0
    have g1 := Br.frozen 1
    have g2 := Br.frozen 2
    have lr := Br.lt
    go_wp2
    have Bf := ((Br.set_ 0 (.int .i64 0)).set_ 1 (.int .i64 0)).set_ 2 (.string ⟨#[]⟩)
    obtain ⟨q0, q1, q2⟩ := leaf_cells Bf
    exact bodyPost_ret (v := .tuple #[.agg #[.int .i64 0, .int .i64 0, .string ⟨#[]⟩], .bool false]) (by simp [results, Tryd.results7, go_sem, q0, q1, q2]) rfl ⟨rfl, by repeat (with_reducible first | exact Below.refl _ _ | assumption | refine below_al ?_ _ | refine below_set ?_ (by omega) | refine below_drewN ?_ | refine below_dr ?_ | refine below_on ?_ (by assumption))⟩
set_option maxRecDepth 100000 in
set_option maxHeartbeats 4000000 in
theorem read_f (s s1 s2 s3 s4 s5 s6 s7 d rest j4 tr : ByteArray) (n i last : Int) (k c : Nat) (w : World) (hsz : s.size = 128) (HH : ∀ w, Calls Tryd.prog 12 #[.string (s.extract 0 120)] w fun e w' => e = .returned (.bool true) ∧ Below w.heap.size w w') (HR1 : ∀ w r, Blk w r 54 #[.string s, .bool false] → Calls Tryd.prog 14 #[.pointer (some ⟨r, 0, none⟩), .int .i64 8] w fun e w' => e = .returned (.int .i64 n) ∧ Blk w' r 54 #[.string s1, .bool false] ∧ w.grownBy w' (some r)) (HR2 : ∀ w r, Blk w r 54 #[.string s1, .bool false] → Calls Tryd.prog 14 #[.pointer (some ⟨r, 0, none⟩), .int .i64 2] w fun e w' => e = .returned (.int .i64 i) ∧ Blk w' r 54 #[.string s2, .bool false] ∧ w.grownBy w' (some r)) (HR3 : ∀ w r, Blk w r 54 #[.string s2, .bool false] → Calls Tryd.prog 14 #[.pointer (some ⟨r, 0, none⟩), .int .i64 2] w fun e w' => e = .returned (.int .i64 (k : Int)) ∧ Blk w' r 54 #[.string s3, .bool false] ∧ w.grownBy w' (some r)) (HR4 : ∀ w r, Blk w r 54 #[.string s3, .bool false] → Calls Tryd.prog 15 #[.pointer (some ⟨r, 0, none⟩), .int .i64 k] w fun e w' => e = .returned (.string d) ∧ Blk w' r 54 #[.string s4, .bool false] ∧ w.grownBy w' (some r)) (HR5 : ∀ w r, Blk w r 54 #[.string s4, .bool false] → Calls Tryd.prog 15 #[.pointer (some ⟨r, 0, none⟩), .int .i64 c] w fun e w' => e = .returned (.string rest) ∧ Blk w' r 54 #[.string s5, .bool false] ∧ w.grownBy w' (some r)) (HR6 : ∀ w r, Blk w r 54 #[.string s5, .bool false] → Calls Tryd.prog 15 #[.pointer (some ⟨r, 0, none⟩), .int .i64 4] w fun e w' => e = .returned (.string j4) ∧ Blk w' r 54 #[.string s6, .bool false] ∧ w.grownBy w' (some r)) (HR7 : ∀ w r, Blk w r 54 #[.string s6, .bool false] → Calls Tryd.prog 14 #[.pointer (some ⟨r, 0, none⟩), .int .i64 8] w fun e w' => e = .returned (.int .i64 n) ∧ Blk w' r 54 #[.string s7, .bool false] ∧ w.grownBy w' (some r)) (HT : ∀ w, Calls Tryd.prog 16 #[.string rest, .string ⟨#[0]⟩] w fun e w' => e = .returned (.string ⟨#[]⟩) ∧ Below w.heap.size w w') (HG : ∀ w, Calls Tryd.prog 17 #[.agg #[.int .i64 n, .int .i64 i, .string d]] w fun e w' => e = .returned (.bool false) ∧ Below w.heap.size w w') (hc : (104 : Int) - (k : Int) = (c : Int)) (hk : k ≤ 104) :
    Calls Tryd.prog 7 #[.string s] w fun e w' => e = .returned (.tuple #[.agg #[.int .i64 0, .int .i64 0, .string ⟨#[]⟩], .bool false]) ∧ Below w.heap.size w w' := by
  have he1 : (n == n) = true := by simp
  have he2 : (n != n) = false := by simp
  have h1 : ((s.size : Int) == 128) = true := by simp; omega
  have h2 : ((s.size : Int) != 128) = false := by simp; omega
  have Br0 := Blk.new w 24 #[.int .i64 0, .int .i64 0, .string ⟨#[]⟩]
  go_enter Tryd.func7, Tryd.ntmps7
  go_wp2_with fail
  refine (HH _).mono ?_
  rintro e w1 ⟨rfl, hb1⟩
  have Br := Br0.below hb1 Br0.lt
  have hB := below_on (below_al (Below.refl _ w) (.cells #[.int .i64 0, .int .i64 0, .string ⟨#[]⟩] 24)) hb1
  clear Br0 hb1
  go_wp2_with fail
  refine (read_any s _).mono ?_
  rintro e w2 ⟨rfl, rfl⟩
  have Bd : Blk (w1.alloc (.cells #[.string s, .bool false] 54)) w1.heap.size 54 #[.string s, .bool false] := Blk.new _ _ _
  have Br := Br.alloc (.cells #[.string s, .bool false] 54)
  have hB2 := below_al hB (.cells #[.string s, .bool false] 54)
  have ld := hB.size
  have lr0 : w.heap.size < w1.heap.size := by have := ‹Blk w1 w.heap.size 24 _›.lt; exact this
  clear hB
  have hB := hB2
  clear hB2
  generalize (w1.alloc (.cells #[.string s, .bool false] 54)) = W at *
  generalize w1.heap.size = r at *
  go_wp2_with fail
  refine (HR1 _ r Bd).mono ?_
  rintro e w3 ⟨rfl, Bd3, hg3⟩
  have Br3 := blk_gr Br hg3 (by omega)
  have hB3 := below_gr hB hg3 (by omega)
  clear Bd Br hB hg3
  have Bd := Bd3
  have Br := Br3
  have hB := hB3
  clear Bd3 Br3 hB3
  go_wp2_with fail
  refine (HR2 _ r Bd).mono ?_
  rintro e w4 ⟨rfl, Bd4, hg4⟩
  have Br4 := blk_gr Br hg4 (by omega)
  have hB4 := below_gr hB hg4 (by omega)
  clear Bd Br hB hg4
  have Bd := Bd4
  have Br := Br4
  have hB := hB4
  clear Bd4 Br4 hB4
  have lr2 : r < w4.heap.size := Bd.lt
  go_wp2_with fail
  have Bl : Blk (w4.alloc (.cells #[.int .i64 n, .int .i64 i, .string ⟨#[]⟩] 24)) w4.heap.size 24 #[.int .i64 n, .int .i64 i, .string ⟨#[]⟩] := Blk.new _ _ _
  have Bd2 := Bd.alloc (.cells #[.int .i64 n, .int .i64 i, .string ⟨#[]⟩] 24)
  have Br2 := Br.alloc (.cells #[.int .i64 n, .int .i64 i, .string ⟨#[]⟩] 24)
  have hB2 := below_al hB (.cells #[.int .i64 n, .int .i64 i, .string ⟨#[]⟩] 24)
  have ll : w4.heap.size < (w4.alloc (.cells #[.int .i64 n, .int .i64 i, .string ⟨#[]⟩] 24)).heap.size := by simp
  clear Bd Br hB
  have Bd := Bd2
  have Br := Br2
  have hB := hB2
  clear Bd2 Br2 hB2
  generalize (w4.alloc (.cells #[.int .i64 n, .int .i64 i, .string ⟨#[]⟩] 24)) = W4 at *
  generalize w4.heap.size = lf at *
  go_wp2_with fail
  refine (HR3 _ r Bd).mono ?_
  rintro e w5 ⟨rfl, Bd5, hg5⟩
  have Br5 := blk_gr Br hg5 (by omega)
  have Bl5 := blk_gr Bl hg5 (by omega)
  have hB5 := below_gr hB hg5 (by omega)
  have ll5 := Nat.lt_of_lt_of_le ll hg5.size
  clear Bd Br hB hg5 Bl ll
  have Bd := Bd5
  have Br := Br5
  have hB := hB5
  have Bl := Bl5
  have ll := ll5
  clear Bd5 Br5 hB5 Bl5 ll5
  go_wp2_with fail
  refine (HR4 _ r Bd).mono ?_
  rintro e w6 ⟨rfl, Bd6, hg6⟩
  have Br6 := blk_gr Br hg6 (by omega)
  have Bl6 := blk_gr Bl hg6 (by omega)
  have hB6 := below_gr hB hg6 (by omega)
  have ll6 := Nat.lt_of_lt_of_le ll hg6.size
  clear Bd Br hB hg6 Bl ll
  have Bd := Bd6
  have Br := Br6
  have hB := hB6
  have Bl := Bl6
  have ll := ll6
  clear Bd6 Br6 hB6 Bl6 ll6
  obtain ⟨c0, c1, c2⟩ := leaf_cells Bl
  have f0 := Bl.frozen 0
  have f1 := Bl.frozen 1
  have f2 := Bl.frozen 2
  go_wp2_with fail
  have Bl2 := Bl.set_ 2 (.string d)
  have Bd2 := Bd.far (p := ⟨lf, 2, none⟩) (by simp; omega) (.string d)
  have Br2 := Br.far (p := ⟨lf, 2, none⟩) (by simp; omega) (.string d)
  have hB2 := below_set (i := 2) (v := .string d) hB (show w.heap.size ≤ lf by omega)
  have ll2 : lf < (w6.setCell ⟨lf, 2, none⟩ (.string d)).heap.size := by simpa [World.setCell] using ll
  clear Bl Bd Br hB c0 c1 c2 f0 f1 f2 ll
  have Bl := Bl2
  have Bd := Bd2
  have Br := Br2
  have hB := hB2
  have ll := ll2
  clear Bl2 Bd2 Br2 hB2 ll2
  generalize (w6.setCell ⟨lf, 2, none⟩ (.string d)) = W6 at *
  go_wp2_with fail
  refine (HR5 _ r Bd).mono ?_
  rintro e w7 ⟨rfl, Bd7, hg7⟩
  have Br7 := blk_gr Br hg7 (by omega)
  have Bl7 := blk_gr Bl hg7 (by omega)
  have hB7 := below_gr hB hg7 (by omega)
  have ll7 := Nat.lt_of_lt_of_le ll hg7.size
  clear Bd Br hB hg7 Bl ll
  have Bd := Bd7
  have Br := Br7
  have hB := hB7
  have Bl := Bl7
  have ll := ll7
  clear Bd7 Br7 hB7 Bl7 ll7
  go_wp2_with fail
  refine (HR6 _ r Bd).mono ?_
  rintro e w8 ⟨rfl, Bd8, hg8⟩
  have Br8 := blk_gr Br hg8 (by omega)
  have Bl8 := blk_gr Bl hg8 (by omega)
  have hB8 := below_gr hB hg8 (by omega)
  have ll8 := Nat.lt_of_lt_of_le ll hg8.size
  clear Bd Br hB hg8 Bl ll
  have Bd := Bd8
  have Br := Br8
  have hB := hB8
  have Bl := Bl8
  have ll := ll8
  clear Bd8 Br8 hB8 Bl8 ll8
  obtain ⟨c0, c1, c2⟩ := leaf_cells Bl
  go_wp2_with fail
  first | (go_region_with (first | (go_at_call 14; (with_reducible refine (HR7 _ r ?_).mono ?_); (first | exact Bd | exact Bd.drew); rintro e w9 ⟨rfl, Bd9, hg9⟩; have Bl9 := blk_gr Bl.drew hg9 (by omega); have Br9 := blk_gr Br.drew hg9 (by omega); have hB9 := below_gr (below_dr hB) hg9 (by omega); obtain ⟨a0, a1, a2⟩ := leaf_cells Bl9; have ll9 := Bl9.lt) | (go_at_call 16; (with_reducible refine (HT _).mono ?_); rintro e w10 ⟨rfl, hb10⟩; have Bl10 := Bl9.below hb10 Bl9.lt; have Br10 := Br9.below hb10 Br9.lt; have hB10 := below_on hB9 hb10; obtain ⟨x0, x1, x2⟩ := leaf_cells Bl10; have ll10 := Bl10.lt) | (go_at_call 17; (with_reducible refine (HG _).mono ?_); rintro e w11 ⟨rfl, hb11⟩; have Bl11 := Bl10.below hb11 Bl10.lt; have Br11 := Br10.below hb11 Br10.lt; have hB11 := below_on hB10 hb11))) | fail
  all_goals
    clear c0 c1 c2
    clear a0 a1 a2
    clear x0 x1 x2
    have Br := Br11
    have Bl := Bl11
    have hB := hB11
    clear Br9 Bl9 hB9 Br10 Bl10 hB10 Br11 Bl11 hB11
    obtain ⟨z0, z1, z2⟩ := leaf_cells Br
    have g0 := Br.frozen 0
    have g1 := Br.frozen 1
    have g2 := Br.frozen 2
    have lr := Br.lt
    go_wp2
    have Bf := ((Br.set_ 0 (.int .i64 0)).set_ 1 (.int .i64 0)).set_ 2 (.string ⟨#[]⟩)
    obtain ⟨q0, q1, q2⟩ := leaf_cells Bf
    exact bodyPost_ret (v := .tuple #[.agg #[.int .i64 0, .int .i64 0, .string ⟨#[]⟩], .bool false]) (by simp [results, Tryd.results7, go_sem, q0, q1, q2]) rfl ⟨rfl, by repeat (with_reducible first | exact Below.refl _ _ | assumption | refine below_al ?_ _ | refine below_set ?_ (by omega) | refine below_drewN ?_ | refine below_dr ?_ | refine below_on ?_ (by assumption))⟩
set_option maxRecDepth 100000 in
set_option maxHeartbeats 4000000 in
theorem read_g (s s1 s2 s3 s4 s5 s6 s7 d rest j4 tr : ByteArray) (n i last : Int) (k c : Nat) (w : World) (hsz : s.size = 128) (HH : ∀ w, Calls Tryd.prog 12 #[.string (s.extract 0 120)] w fun e w' => e = .returned (.bool true) ∧ Below w.heap.size w w') (HR1 : ∀ w r, Blk w r 54 #[.string s, .bool false] → Calls Tryd.prog 14 #[.pointer (some ⟨r, 0, none⟩), .int .i64 8] w fun e w' => e = .returned (.int .i64 n) ∧ Blk w' r 54 #[.string s1, .bool false] ∧ w.grownBy w' (some r)) (HR2 : ∀ w r, Blk w r 54 #[.string s1, .bool false] → Calls Tryd.prog 14 #[.pointer (some ⟨r, 0, none⟩), .int .i64 2] w fun e w' => e = .returned (.int .i64 i) ∧ Blk w' r 54 #[.string s2, .bool false] ∧ w.grownBy w' (some r)) (HR3 : ∀ w r, Blk w r 54 #[.string s2, .bool false] → Calls Tryd.prog 14 #[.pointer (some ⟨r, 0, none⟩), .int .i64 2] w fun e w' => e = .returned (.int .i64 (k : Int)) ∧ Blk w' r 54 #[.string s3, .bool false] ∧ w.grownBy w' (some r)) (HR4 : ∀ w r, Blk w r 54 #[.string s3, .bool false] → Calls Tryd.prog 15 #[.pointer (some ⟨r, 0, none⟩), .int .i64 k] w fun e w' => e = .returned (.string d) ∧ Blk w' r 54 #[.string s4, .bool false] ∧ w.grownBy w' (some r)) (HR5 : ∀ w r, Blk w r 54 #[.string s4, .bool false] → Calls Tryd.prog 15 #[.pointer (some ⟨r, 0, none⟩), .int .i64 c] w fun e w' => e = .returned (.string rest) ∧ Blk w' r 54 #[.string s5, .bool false] ∧ w.grownBy w' (some r)) (HR6 : ∀ w r, Blk w r 54 #[.string s5, .bool false] → Calls Tryd.prog 15 #[.pointer (some ⟨r, 0, none⟩), .int .i64 4] w fun e w' => e = .returned (.string j4) ∧ Blk w' r 54 #[.string s6, .bool false] ∧ w.grownBy w' (some r)) (HR7 : ∀ w r, Blk w r 54 #[.string s6, .bool false] → Calls Tryd.prog 14 #[.pointer (some ⟨r, 0, none⟩), .int .i64 8] w fun e w' => e = .returned (.int .i64 n) ∧ Blk w' r 54 #[.string s7, .bool false] ∧ w.grownBy w' (some r)) (HT : ∀ w, Calls Tryd.prog 16 #[.string rest, .string ⟨#[0]⟩] w fun e w' => e = .returned (.string ⟨#[]⟩) ∧ Below w.heap.size w w') (HG : ∀ w, Calls Tryd.prog 17 #[.agg #[.int .i64 n, .int .i64 i, .string d]] w fun e w' => e = .returned (.bool true) ∧ Below w.heap.size w w') (hc : (104 : Int) - (k : Int) = (c : Int)) (hk : k ≤ 104) :
    Calls Tryd.prog 7 #[.string s] w fun e w' => e = .returned (.tuple #[.agg #[.int .i64 n, .int .i64 i, .string d], .bool true]) ∧ Below w.heap.size w w' := by
  have he1 : (n == n) = true := by simp
  have he2 : (n != n) = false := by simp
  have h1 : ((s.size : Int) == 128) = true := by simp; omega
  have h2 : ((s.size : Int) != 128) = false := by simp; omega
  have Br0 := Blk.new w 24 #[.int .i64 0, .int .i64 0, .string ⟨#[]⟩]
  go_enter Tryd.func7, Tryd.ntmps7
  go_wp2_with fail
  refine (HH _).mono ?_
  rintro e w1 ⟨rfl, hb1⟩
  have Br := Br0.below hb1 Br0.lt
  have hB := below_on (below_al (Below.refl _ w) (.cells #[.int .i64 0, .int .i64 0, .string ⟨#[]⟩] 24)) hb1
  clear Br0 hb1
  go_wp2_with fail
  refine (read_any s _).mono ?_
  rintro e w2 ⟨rfl, rfl⟩
  have Bd : Blk (w1.alloc (.cells #[.string s, .bool false] 54)) w1.heap.size 54 #[.string s, .bool false] := Blk.new _ _ _
  have Br := Br.alloc (.cells #[.string s, .bool false] 54)
  have hB2 := below_al hB (.cells #[.string s, .bool false] 54)
  have ld := hB.size
  have lr0 : w.heap.size < w1.heap.size := by have := ‹Blk w1 w.heap.size 24 _›.lt; exact this
  clear hB
  have hB := hB2
  clear hB2
  generalize (w1.alloc (.cells #[.string s, .bool false] 54)) = W at *
  generalize w1.heap.size = r at *
  go_wp2_with fail
  refine (HR1 _ r Bd).mono ?_
  rintro e w3 ⟨rfl, Bd3, hg3⟩
  have Br3 := blk_gr Br hg3 (by omega)
  have hB3 := below_gr hB hg3 (by omega)
  clear Bd Br hB hg3
  have Bd := Bd3
  have Br := Br3
  have hB := hB3
  clear Bd3 Br3 hB3
  go_wp2_with fail
  refine (HR2 _ r Bd).mono ?_
  rintro e w4 ⟨rfl, Bd4, hg4⟩
  have Br4 := blk_gr Br hg4 (by omega)
  have hB4 := below_gr hB hg4 (by omega)
  clear Bd Br hB hg4
  have Bd := Bd4
  have Br := Br4
  have hB := hB4
  clear Bd4 Br4 hB4
  have lr2 : r < w4.heap.size := Bd.lt
  go_wp2_with fail
  have Bl : Blk (w4.alloc (.cells #[.int .i64 n, .int .i64 i, .string ⟨#[]⟩] 24)) w4.heap.size 24 #[.int .i64 n, .int .i64 i, .string ⟨#[]⟩] := Blk.new _ _ _
  have Bd2 := Bd.alloc (.cells #[.int .i64 n, .int .i64 i, .string ⟨#[]⟩] 24)
  have Br2 := Br.alloc (.cells #[.int .i64 n, .int .i64 i, .string ⟨#[]⟩] 24)
  have hB2 := below_al hB (.cells #[.int .i64 n, .int .i64 i, .string ⟨#[]⟩] 24)
  have ll : w4.heap.size < (w4.alloc (.cells #[.int .i64 n, .int .i64 i, .string ⟨#[]⟩] 24)).heap.size := by simp
  clear Bd Br hB
  have Bd := Bd2
  have Br := Br2
  have hB := hB2
  clear Bd2 Br2 hB2
  generalize (w4.alloc (.cells #[.int .i64 n, .int .i64 i, .string ⟨#[]⟩] 24)) = W4 at *
  generalize w4.heap.size = lf at *
  go_wp2_with fail
  refine (HR3 _ r Bd).mono ?_
  rintro e w5 ⟨rfl, Bd5, hg5⟩
  have Br5 := blk_gr Br hg5 (by omega)
  have Bl5 := blk_gr Bl hg5 (by omega)
  have hB5 := below_gr hB hg5 (by omega)
  have ll5 := Nat.lt_of_lt_of_le ll hg5.size
  clear Bd Br hB hg5 Bl ll
  have Bd := Bd5
  have Br := Br5
  have hB := hB5
  have Bl := Bl5
  have ll := ll5
  clear Bd5 Br5 hB5 Bl5 ll5
  go_wp2_with fail
  refine (HR4 _ r Bd).mono ?_
  rintro e w6 ⟨rfl, Bd6, hg6⟩
  have Br6 := blk_gr Br hg6 (by omega)
  have Bl6 := blk_gr Bl hg6 (by omega)
  have hB6 := below_gr hB hg6 (by omega)
  have ll6 := Nat.lt_of_lt_of_le ll hg6.size
  clear Bd Br hB hg6 Bl ll
  have Bd := Bd6
  have Br := Br6
  have hB := hB6
  have Bl := Bl6
  have ll := ll6
  clear Bd6 Br6 hB6 Bl6 ll6
  obtain ⟨c0, c1, c2⟩ := leaf_cells Bl
  have f0 := Bl.frozen 0
  have f1 := Bl.frozen 1
  have f2 := Bl.frozen 2
  go_wp2_with fail
  have Bl2 := Bl.set_ 2 (.string d)
  have Bd2 := Bd.far (p := ⟨lf, 2, none⟩) (by simp; omega) (.string d)
  have Br2 := Br.far (p := ⟨lf, 2, none⟩) (by simp; omega) (.string d)
  have hB2 := below_set (i := 2) (v := .string d) hB (show w.heap.size ≤ lf by omega)
  have ll2 : lf < (w6.setCell ⟨lf, 2, none⟩ (.string d)).heap.size := by simpa [World.setCell] using ll
  clear Bl Bd Br hB c0 c1 c2 f0 f1 f2 ll
  have Bl := Bl2
  have Bd := Bd2
  have Br := Br2
  have hB := hB2
  have ll := ll2
  clear Bl2 Bd2 Br2 hB2 ll2
  generalize (w6.setCell ⟨lf, 2, none⟩ (.string d)) = W6 at *
  go_wp2_with fail
  refine (HR5 _ r Bd).mono ?_
  rintro e w7 ⟨rfl, Bd7, hg7⟩
  have Br7 := blk_gr Br hg7 (by omega)
  have Bl7 := blk_gr Bl hg7 (by omega)
  have hB7 := below_gr hB hg7 (by omega)
  have ll7 := Nat.lt_of_lt_of_le ll hg7.size
  clear Bd Br hB hg7 Bl ll
  have Bd := Bd7
  have Br := Br7
  have hB := hB7
  have Bl := Bl7
  have ll := ll7
  clear Bd7 Br7 hB7 Bl7 ll7
  go_wp2_with fail
  refine (HR6 _ r Bd).mono ?_
  rintro e w8 ⟨rfl, Bd8, hg8⟩
  have Br8 := blk_gr Br hg8 (by omega)
  have Bl8 := blk_gr Bl hg8 (by omega)
  have hB8 := below_gr hB hg8 (by omega)
  have ll8 := Nat.lt_of_lt_of_le ll hg8.size
  clear Bd Br hB hg8 Bl ll
  have Bd := Bd8
  have Br := Br8
  have hB := hB8
  have Bl := Bl8
  have ll := ll8
  clear Bd8 Br8 hB8 Bl8 ll8
  obtain ⟨c0, c1, c2⟩ := leaf_cells Bl
  go_wp2_with fail
  first | (go_region_with (first | (go_at_call 14; (with_reducible refine (HR7 _ r ?_).mono ?_); (first | exact Bd | exact Bd.drew); rintro e w9 ⟨rfl, Bd9, hg9⟩; have Bl9 := blk_gr Bl.drew hg9 (by omega); have Br9 := blk_gr Br.drew hg9 (by omega); have hB9 := below_gr (below_dr hB) hg9 (by omega); obtain ⟨a0, a1, a2⟩ := leaf_cells Bl9; have ll9 := Bl9.lt) | (go_at_call 16; (with_reducible refine (HT _).mono ?_); rintro e w10 ⟨rfl, hb10⟩; have Bl10 := Bl9.below hb10 Bl9.lt; have Br10 := Br9.below hb10 Br9.lt; have hB10 := below_on hB9 hb10; obtain ⟨x0, x1, x2⟩ := leaf_cells Bl10; have ll10 := Bl10.lt) | (go_at_call 17; (with_reducible refine (HG _).mono ?_); rintro e w11 ⟨rfl, hb11⟩; have Bl11 := Bl10.below hb11 Bl10.lt; have Br11 := Br10.below hb11 Br10.lt; have hB11 := below_on hB10 hb11))) | fail
  all_goals
    clear c0 c1 c2
    clear a0 a1 a2
    clear x0 x1 x2
    have Br := Br11
    have Bl := Bl11
    have hB := hB11
    clear Br9 Bl9 hB9 Br10 Bl10 hB10 Br11 Bl11 hB11
    obtain ⟨z0, z1, z2⟩ := leaf_cells Br
    have g0 := Br.frozen 0
    have g1 := Br.frozen 1
    have g2 := Br.frozen 2
    have lr := Br.lt
    obtain ⟨y0, y1, y2⟩ := leaf_cells Bl
    have lq := Bl.lt
    go_wp2
    have Bf := ((Br.set_ 0 (.int .i64 n)).set_ 1 (.int .i64 i)).set_ 2 (.string d)
    obtain ⟨q0, q1, q2⟩ := leaf_cells Bf
    exact bodyPost_ret (v := .tuple #[.agg #[.int .i64 n, .int .i64 i, .string d], .bool true]) (by simp [results, Tryd.results7, go_sem, q0, q1, q2]) rfl ⟨rfl, by repeat (with_reducible first | exact Below.refl _ _ | assumption | refine below_al ?_ _ | refine below_set ?_ (by omega) | refine below_drewN ?_ | refine below_dr ?_ | refine below_on ?_ (by assumption))⟩
end Go.Proofs.YtefkodglfhonpaaDoor
