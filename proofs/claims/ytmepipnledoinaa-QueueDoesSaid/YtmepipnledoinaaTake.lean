/- The contract of take: an item goes. Conditions: a heap. -/
import Derived.Test.YtmepipnledoinaaDown
namespace Go.Proofs.Ytmepipnledoinaa
open Go.RowKit Go.BigFrame
/-- nothing has turned but the queue's own block and its row -/
structure Kp (w w' : World) (q : Nat) (b : Option Nat) : Prop where
  os : w'.os = w.os
  tape : w'.tape = w.tape
  output : w'.output = w.output
  size : w.heap.size ≤ w'.heap.size
  block : ∀ k, k < w.heap.size → k ≠ q → some k ≠ b → w'.heap[k]? = w.heap[k]?
section
variable {a b c : World} {q : Nat} {r : Option Nat}
theorem Kp.refl (a : World) (q : Nat) (r : Option Nat) : Kp a a q r := ⟨rfl, rfl, rfl, Nat.le_refl _, fun _ _ _ _ => rfl⟩
theorem Kp.trans (h : Kp a b q r) (k : Kp b c q r) : Kp a c q r :=
  ⟨k.os.trans h.os, k.tape.trans h.tape, k.output.trans h.output, Nat.le_trans h.size k.size, fun i hi h1 h2 => (k.block i (Nat.lt_of_lt_of_le hi h.size) h1 h2).trans (h.block i hi h1 h2)⟩
theorem Kp.of_below (h : Below a.heap.size a b) : Kp a b q r := ⟨h.os, h.tape, h.output, h.size, fun i hi _ _ => h.block i hi⟩
theorem Kp.of_grown (h : a.grownBy b r) : Kp a b q r := ⟨h.os, h.tape, h.output, h.size, fun i hi _ h2 => h.block i hi h2⟩
theorem Kp.setq (h : Kp a b q r) (i : Nat) (u : Value) : Kp a (b.setCell ⟨q, i, none⟩ u) q r :=
  ⟨h.os, h.tape, h.output, by simpa [World.setCell] using h.size, fun k hk h1 h2 => (Below.heap_setCell b ⟨q, i, none⟩ u k h1).trans (h.block k hk h1 h2)⟩
theorem Kp.drew (h : Kp a b q r) : Kp a b.drew q r := ⟨h.os, h.tape, h.output, h.size, h.block⟩
theorem Kp.below {B : Nat} (h : Kp a b q r) (hq : B ≤ q) (hr : ∀ k, r = some k → B ≤ k) (hB : B ≤ a.heap.size) : Below B a b :=
  ⟨h.os, h.tape, h.output, h.size, fun k hk => h.block k (by omega) (by omega) (fun e => by have := hr k e.symm; omega)⟩
end
theorem own_cut {w : World} {B g cap n n' : Nat} {xs : List Value} (h : w.ownsRow B 34 4 (.slice (some ⟨g, 0, none⟩) n' cap) n' xs) (hn : n ≤ n') : w.ownsRow B 34 4 (.slice (some ⟨g, 0, none⟩) n cap) n (xs.take (n * 4)) := by
  refine ⟨by rw [List.length_take, h.1]; omega, ?_⟩
  rcases h.2 with ⟨h', _⟩ | ⟨g', cap', cur, h', hb, hg, hnc, hcm, hcs, htake⟩
  · simp at h'
  · simp only [Value.slice.injEq, Option.some.injEq, Addr.mk.injEq, and_true, true_and] at h'
    obtain ⟨rfl, rfl⟩ := h'
    exact .inr ⟨g, cap, cur, rfl, hb, hg, by omega, hcm, hcs, by rw [← htake, List.take_take, Nat.min_eq_left (by omega)]⟩
theorem QRow.cut {w : World} {B q g cap : Nat} {h : List It} (r : QRow w B q g cap h) (n : Nat) (hn : n ≤ h.length) : QRow (w.setCell ⟨q, 0, none⟩ (.slice (some ⟨g, 0, none⟩) n cap)) B q g cap (h.take n) := by
  have hl : (h.take n).length = n := by rw [List.length_take]; omega
  refine ⟨r.hq, ?_, ?_⟩
  · rw [hl]; exact r.blk.set_ 0 _
  · rw [hl, ← flat_take]
    exact ownsRow_setCell_below (own_cut r.own hn) r.hq _
theorem QRow.cap_le {w : World} {B q g cap : Nat} {h : List It} (r : QRow w B q g cap h) : h.length ≤ cap := by
  rcases r.own.2 with ⟨h', _⟩ | ⟨g', cap', cur, h', hb, hg, hnc, _⟩
  · simp at h'
  · simp only [Value.slice.injEq, Option.some.injEq, Addr.mk.injEq, and_true, true_and] at h'
    obtain ⟨rfl, rfl⟩ := h'
    exact hnc
theorem item_cells {w : World} {b : Nat} {x y z t : Int} (h : Blk w b 34 #[.int .i64 x, .int .i64 y, .int .u64 z, .int .u64 t]) : w.cell? ⟨b, 0, none⟩ = some (.int .i64 x) ∧ w.cell? ⟨b, 1, none⟩ = some (.int .i64 y) ∧ w.cell? ⟨b, 2, none⟩ = some (.int .u64 z) ∧ w.cell? ⟨b, 3, none⟩ = some (.int .u64 t) := ⟨h.cell 0, h.cell 1, h.cell 2, h.cell 3⟩
set_option maxRecDepth 1000000 in
set_option maxHeartbeats 16000000 in
theorem take_w (B q g cap i n : Nat) (h : List It) (x y : It) (w : World) (hr : QRow w B q g cap h) (ho : Heap.Ok lt h) (hi : i ≤ n) (hn : h.length = n + 1) (hl : n ≤ 999) (hx : Heap.g h i = x) (hy : Heap.g h n = y) :
    Calls Try.prog 17 #[.pointer (some ⟨q, 0, none⟩), .int .i64 i] w fun e w' => e = .returned (iv x.due x.stamp x.hi x.lo) ∧ ∃ h', QRow w' B q g cap h' ∧ (x :: h').Perm h ∧ Heap.Ok lt h' ∧ Kp w w' q (some g) := by
  have c0 := hr.cell
  rw [hn] at c0
  have hig : i < h.length := by omega
  have hng : n < h.length := by omega
  obtain ⟨a0, a1, a2, a3⟩ := hr.item hig
  obtain ⟨b0, b1, b2, b3⟩ := hr.item hng
  rw [hx] at a0 a1 a2 a3
  rw [hy] at b0 b1 b2 b3
  have i0 : (0 : Int) ≤ (i : Int) := by omega
  have i2 : (i : Int) < ((n + 1 : Nat) : Int) := by omega
  have i3 : (i : Int) < (n : Int) + 1 := by omega
  have n0 : (0 : Int) ≤ (n : Int) := by omega
  have n2 : (n : Int) < ((n + 1 : Nat) : Int) := by omega
  have n3 : (n : Int) < (n : Int) + 1 := by omega
  have nn : ((n + 1 : Nat) : Int) - 1 = (n : Int) := by omega
  have nn2 : IntKind.i64.wrap ((n : Int) + 1 - 1) = (n : Int) := by rw [show (n : Int) + 1 - 1 = (n : Int) by omega]; exact IntWalk.i64_in _ (by omega)
  have lq := hr.blk.lt
  have hbg := hr.base
  have hqb := hr.hq
  have fz := hr.free
  have HH := Lib.hid (And.intro hr (And.intro ho (And.intro hx (And.intro hy hn))))
  clear hr ho hx hy hn
  go_enter Try.func17, Try.ntmps17
  go_wp2_with fail
  go_region
  go_wp2_with fail
  have Br : Blk (((w.alloc (.cells #[.int .i64 0, .int .i64 0, .int .u64 0, .int .u64 0] 34)).alloc (.cells #[.int .i64 x.due, .int .i64 x.stamp, .int .u64 x.hi, .int .u64 x.lo] 34)).drew) w.heap.size 34 #[.int .i64 0, .int .i64 0, .int .u64 0, .int .u64 0] := ((Blk.new _ _ _).alloc _).drew
  have Bx : Blk (((w.alloc (.cells #[.int .i64 0, .int .i64 0, .int .u64 0, .int .u64 0] 34)).alloc (.cells #[.int .i64 x.due, .int .i64 x.stamp, .int .u64 x.hi, .int .u64 x.lo] 34)).drew) (w.heap.size + 1) 34 #[.int .i64 x.due, .int .i64 x.stamp, .int .u64 x.hi, .int .u64 x.lo] := by
    have := (Blk.new (w.alloc (.cells #[.int .i64 0, .int .i64 0, .int .u64 0, .int .u64 0] 34)) 34 #[.int .i64 x.due, .int .i64 x.stamp, .int .u64 x.hi, .int .u64 x.lo]).drew
    simpa using this
  have hbl : Below w.heap.size w (((w.alloc (.cells #[.int .i64 0, .int .i64 0, .int .u64 0, .int .u64 0] 34)).alloc (.cells #[.int .i64 x.due, .int .i64 x.stamp, .int .u64 x.hi, .int .u64 x.lo] 34)).drew) := (((Below.refl _ _).alloc (Nat.le_refl _) _).alloc (by simp) _).drew
  have hr2 : QRow (((w.alloc (.cells #[.int .i64 0, .int .i64 0, .int .u64 0, .int .u64 0] 34)).alloc (.cells #[.int .i64 x.due, .int .i64 x.stamp, .int .u64 x.hi, .int .u64 x.lo] 34)).drew) B q g cap h := HH.out.1.below hbl
  have hK : Kp w (((w.alloc (.cells #[.int .i64 0, .int .i64 0, .int .u64 0, .int .u64 0] 34)).alloc (.cells #[.int .i64 x.due, .int .i64 x.stamp, .int .u64 x.hi, .int .u64 x.lo] 34)).drew) q (some g) := Kp.of_below hbl
  clear a0 a1 a2 a3 b0 b1 b2 b3 c0 fz hbl
  generalize (((w.alloc (.cells #[.int .i64 0, .int .i64 0, .int .u64 0, .int .u64 0] 34)).alloc (.cells #[.int .i64 x.due, .int .i64 x.stamp, .int .u64 x.hi, .int .u64 x.lo] 34)).drew) = W at *
  obtain ⟨w0, hw0⟩ : ∃ w0, w0 = w := ⟨w, rfl⟩
  have hgX : g < w.heap.size := hbg.2
  have c0 := hr2.cell
  rw [HH.out.2.2.2.2] at c0
  obtain ⟨a0, a1, a2, a3⟩ := hr2.item hig
  obtain ⟨b0, b1, b2, b3⟩ := hr2.item hng
  rw [HH.out.2.2.1] at a0 a1 a2 a3
  rw [HH.out.2.2.2.1] at b0 b1 b2 b3
  have fz := hr2.free
  have HZ := Lib.hid (And.intro hr2 (And.intro Br (And.intro Bx hK)))
  clear hr2 Br Bx hK
  go_region
  clear a0 a1 a2 a3 b0 b1 b2 b3 c0 fz
  have hr3 := ((HZ.out.1.set i y).drew)
  have hg3 : W.grownBy (((((W.setCell ⟨g, i * 4, none⟩ (.int .i64 y.due)).setCell ⟨g, i * 4 + 1, none⟩ (.int .i64 y.stamp)).setCell ⟨g, i * 4 + 2, none⟩ (.int .u64 y.hi)).setCell ⟨g, i * 4 + 3, none⟩ (.int .u64 y.lo))).drew (some g) := grown_drew (grown_set (grown_set (grown_set (grown_set (World.grownBy.refl _ _) _ _) _ _) _ _) _ _)
  have Br3 := HZ.out.2.1.grown hg3 (by simp; omega)
  have Bx3 := HZ.out.2.2.1.grown hg3 (by simp; omega)
  have hK3 := HZ.out.2.2.2.trans (Kp.of_grown hg3)
  clear HZ hg3
  generalize (((((W.setCell ⟨g, i * 4, none⟩ (.int .i64 y.due)).setCell ⟨g, i * 4 + 1, none⟩ (.int .i64 y.stamp)).setCell ⟨g, i * 4 + 2, none⟩ (.int .u64 y.hi)).setCell ⟨g, i * 4 + 3, none⟩ (.int .u64 y.lo))).drew = W3 at *
  have c0 := hr3.cell
  rw [List.length_set, HH.out.2.2.2.2] at c0
  have fq := hr3.blk.frozen 0
  have hr4 := hr3.cut n (by rw [List.length_set, HH.out.2.2.2.2]; omega)
  have hcp := HH.out.1.cap_le
  have hcp1 : n ≤ cap := by omega
  have hcp2 : (n : Int) ≤ (cap : Int) := by omega
  have hcut : (h.set i y).take n = Heap.cut h i := by
    unfold Heap.cut
    rw [HH.out.2.2.2.2, Nat.add_sub_cancel, HH.out.2.2.2.1]
  rw [hcut] at hr4
  have hcl : (Heap.cut h i).length = n := by rw [Heap.cut_length, HH.out.2.2.2.2]; omega
  have hbr := Br3.lt
  have Br4 := Br3.far (p := ⟨q, 0, none⟩) (by simp; omega) (.slice (some ⟨g, 0, none⟩) n cap)
  have Bx4 := Bx3.far (p := ⟨q, 0, none⟩) (by simp; omega) (.slice (some ⟨g, 0, none⟩) n cap)
  have hK4 := hK3.setq 0 (.slice (some ⟨g, 0, none⟩) n cap)
  have HL := Lib.hid hcl
  have HZ := Lib.hid (And.intro hr4 (And.intro Br4 (And.intro Bx4 hK4)))
  clear hr3 hr4 hcut hcl Br3 Bx3 Br4 Bx4 hK3 hK4
  by_cases hin : i < n
  · have h1 : (i : Int) < (n : Int) := by omega
    have hdn := Heap.Down.take lt_ord HH.out.2.1 (i := i) (by rw [HH.out.2.2.2.2]; omega)
    have HD := Lib.hid hdn
    clear hdn
    go_wp2_with fail
    generalize (W3.setCell ⟨q, 0, none⟩ (.slice (some ⟨g, 0, none⟩) n cap)) = W4 at *
    clear c0 fq
    refine (down_any B q g cap i _ _ HZ.out.1 HD.out (by rw [HL.out]; omega)).mono ?_
    rintro e w5 ⟨rfl, h5, hr5, hl5, hp5, hu5, hg5⟩
    have Br5 := HZ.out.2.1.grown hg5 (by simp; omega)
    have Bx5 := HZ.out.2.2.1.grown hg5 (by simp; omega)
    have hK5 := HZ.out.2.2.2.trans (Kp.of_grown hg5)
    have HZ5 := Lib.hid (And.intro hr5 (And.intro Br5 (And.intro Bx5 (And.intro hK5 (And.intro hl5 (And.intro hp5 hu5))))))
    clear hr5 Br5 Bx5 hK5 hl5 hp5 hu5 hg5 HZ
    go_wp2_with fail
    refine (up_any B q g cap i _ _ HZ5.out.1 HZ5.out.2.2.2.2.2.2 (by rw [HZ5.out.2.2.2.2.1, HL.out]; omega)).mono ?_
    rintro e w6 ⟨rfl, h6, hr6, hl6, hp6, ho6, hg6⟩
    have Br6 := HZ5.out.2.1.grown hg6 (by simp; omega)
    have Bx6 := HZ5.out.2.2.1.grown hg6 (by simp; omega)
    have hK6 := HZ5.out.2.2.2.1.trans (Kp.of_grown hg6)
    obtain ⟨x0, x1, x2, x3⟩ := item_cells Bx6
    obtain ⟨z0, z1, z2, z3⟩ := item_cells Br6
    have g0 := Br6.frozen 0
    have g1 := Br6.frozen 1
    have g2 := Br6.frozen 2
    have g3 := Br6.frozen 3
    go_wp2
    have Bf := (((Br6.set_ 0 (.int .i64 x.due)).set_ 1 (.int .i64 x.stamp)).set_ 2 (.int .u64 x.hi)).set_ 3 (.int .u64 x.lo)
    obtain ⟨q0, q1, q2, q3⟩ := item_cells Bf
    have hgf := grown_set (grown_set (grown_set (grown_set (World.grownBy.refl w6 (some w.heap.size)) 0 (.int .i64 x.due)) 1 (.int .i64 x.stamp)) 2 (.int .u64 x.hi)) 3 (.int .u64 x.lo)
    refine bodyPost_ret (v := iv x.due x.stamp x.hi x.lo) (by simp [results, Try.results17, go_sem, q0, q1, q2, q3]) rfl ⟨rfl, h6, ?_, ?_, ho6, ?_⟩
    · exact ⟨hr6.hq, hr6.blk.grown hgf (by simp; omega), hr6.own.kept hgf (.inr (by simp [Value.ownBlock]; omega))⟩
    · have := Heap.cut_perm (h := h) (i := i) hig
      rw [HH.out.2.2.1] at this
      exact ((hp6.trans HZ5.out.2.2.2.2.2.1).cons x).trans this
    · exact ⟨hgf.os.trans hK6.os, hgf.tape.trans hK6.tape, hgf.output.trans hK6.output, Nat.le_trans hK6.size hgf.size, fun k hk h1 h2 => (hgf.block k (Nat.lt_of_lt_of_le hk hK6.size) (by simp; omega)).trans (hK6.block k hk h1 h2)⟩
  · obtain rfl : i = n := by omega
    have ho4 := HH.out.2.1.cut_last (by omega)
    rw [HH.out.2.2.2.2, Nat.add_sub_cancel] at ho4
    have hBr := HZ.out.2.1
    have hBx := HZ.out.2.2.1
    obtain ⟨x0, x1, x2, x3⟩ := item_cells hBx
    obtain ⟨z0, z1, z2, z3⟩ := item_cells hBr
    have g0 := hBr.frozen 0
    have g1 := hBr.frozen 1
    have g2 := hBr.frozen 2
    have g3 := hBr.frozen 3
    have HO := Lib.hid ho4
    clear ho4 hBr hBx
    go_wp2
    have Bf := (((HZ.out.2.1.set_ 0 (.int .i64 x.due)).set_ 1 (.int .i64 x.stamp)).set_ 2 (.int .u64 x.hi)).set_ 3 (.int .u64 x.lo)
    obtain ⟨q0, q1, q2, q3⟩ := item_cells Bf
    have hgf := grown_set (grown_set (grown_set (grown_set (World.grownBy.refl (W3.setCell ⟨q, 0, none⟩ (.slice (some ⟨g, 0, none⟩) i cap)) (some w.heap.size)) 0 (.int .i64 x.due)) 1 (.int .i64 x.stamp)) 2 (.int .u64 x.hi)) 3 (.int .u64 x.lo)
    have hr6 := HZ.out.1
    have hK6 := HZ.out.2.2.2
    refine bodyPost_ret (v := iv x.due x.stamp x.hi x.lo) (by simp [results, Try.results17, go_sem, q0, q1, q2, q3]) rfl ⟨rfl, _, ⟨hr6.hq, hr6.blk.grown hgf (by simp; omega), hr6.own.kept hgf (.inr (by simp [Value.ownBlock]; omega))⟩, ?_, HO.out, ?_⟩
    · have := Heap.cut_perm (h := h) (i := i) hig
      rw [HH.out.2.2.1] at this
      exact this
    · exact ⟨hgf.os.trans hK6.os, hgf.tape.trans hK6.tape, hgf.output.trans hK6.output, Nat.le_trans hK6.size hgf.size, fun k hk h1 h2 => (hgf.block k (Nat.lt_of_lt_of_le hk hK6.size) (by simp; omega)).trans (hK6.block k hk h1 h2)⟩
end Go.Proofs.Ytmepipnledoinaa
