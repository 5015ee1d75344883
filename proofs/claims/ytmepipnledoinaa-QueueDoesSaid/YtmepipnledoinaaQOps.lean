/- The contracts of Len, First, Pop, Drop. Conditions: a heap of few items. -/
import Derived.Test.YtmepipnledoinaaPut
namespace Go.Proofs.Ytmepipnledoinaa
open Go.RowKit Go.BigFrame
theorem len_nil (w : World) : Calls Try.prog 10 #[.pointer none] w fun e w' => e = .returned (.int .i64 0) ∧ w = w' := by
  go_enter Try.func10, Try.ntmps10
  go_wp2
  go_ret
  exact ⟨rfl, rfl⟩
theorem QAt.form {w : World} {B q : Nat} {b : Option Nat} {h : List It} (a : QAt w B q b h) : ∃ A cap, w.cell? ⟨q, 0, none⟩ = some (.slice A h.length cap) := by
  obtain ⟨v, r1, r2, r3⟩ := a.row
  rcases r2.2 with ⟨rfl, e0⟩ | ⟨g, cap, cur, rfl, _⟩
  · exact ⟨none, 0, by rw [e0]; exact r1.cell 0⟩
  · exact ⟨_, _, r1.cell 0⟩
theorem len_any (B q : Nat) (b : Option Nat) (h : List It) (w : World) (ha : QAt w B q b h) :
    Calls Try.prog 10 #[.pointer (some ⟨q, 0, none⟩)] w fun e w' => e = .returned (.int .i64 (h.length : Int)) ∧ w = w' := by
  obtain ⟨A, cap, c0⟩ := ha.form
  clear ha
  go_enter Try.func10, Try.ntmps10
  go_wp2
  go_ret
  exact ⟨rfl, rfl⟩
theorem len_is (B q : Nat) (b : Option Nat) (h : List It) (n : Nat) (hn : h.length = n) (w : World) (ha : QAt w B q b h) :
    Calls Try.prog 10 #[.pointer (some ⟨q, 0, none⟩)] w fun e w' => e = .returned (.int .i64 (n : Int)) ∧ w = w' := hn ▸ len_any B q b h w ha
abbrev no2 : Value := .tuple #[.agg #[.int .i64 0, .int .i64 0, .int .u64 0, .int .u64 0], .bool false]
abbrev yes2 (x : It) : Value := .tuple #[.agg #[.int .i64 x.due, .int .i64 x.stamp, .int .u64 x.hi, .int .u64 x.lo], .bool true]
abbrev ZC : Obj := .cells #[.int .i64 0, .int .i64 0, .int .u64 0, .int .u64 0] 34
theorem zero_set {w : World} {r : Nat} (h : Blk w r 34 #[.int .i64 0, .int .i64 0, .int .u64 0, .int .u64 0]) (x y z t : Int) : Blk ((((w.setCell ⟨r, 0, none⟩ (.int .i64 x)).setCell ⟨r, 1, none⟩ (.int .i64 y)).setCell ⟨r, 2, none⟩ (.int .u64 z)).setCell ⟨r, 3, none⟩ (.int .u64 t)) r 34 #[.int .i64 x, .int .i64 y, .int .u64 z, .int .u64 t] := (((h.set_ 0 _).set_ 1 _).set_ 2 _).set_ 3 _
set_option maxRecDepth 100000 in
theorem first_nil (w : World) : Calls Try.prog 15 #[.pointer none] w fun e w' => e = .returned no2 ∧ Below w.heap.size w w' := by
  go_enter Try.func15, Try.ntmps15
  go_wp2_with fail
  refine (len_nil _).mono ?_
  rintro e w1 ⟨rfl, rfl⟩
  go_wp2
  exact bodyPost_ret (v := no2) (by simp [results, Try.results15, go_sem]) rfl ⟨rfl, (Below.refl _ _).alloc (Nat.le_refl _) _⟩
set_option maxRecDepth 100000 in
theorem first_no (B q : Nat) (b : Option Nat) (w : World) (ha : QAt w B q b []) :
    Calls Try.prog 15 #[.pointer (some ⟨q, 0, none⟩)] w fun e w' => e = .returned no2 ∧ Below w.heap.size w w' := by
  have hb : Below w.heap.size w (w.alloc ZC) := (Below.refl _ _).alloc (Nat.le_refl _) _
  have H := Lib.hid (ha.below hb)
  clear ha
  go_enter Try.func15, Try.ntmps15
  go_wp2_with fail
  refine (len_is B q b [] 0 rfl _ H.out).mono ?_
  rintro e w1 ⟨rfl, rfl⟩
  go_wp2
  exact bodyPost_ret (v := no2) (by simp [results, Try.results15, go_sem]) rfl ⟨rfl, hb⟩
set_option maxRecDepth 100000 in
theorem first_yes (B q : Nat) (b : Option Nat) (h : List It) (x : It) (n : Nat) (w : World) (ha : QAt w B q b h) (hn : h.length = n + 1) (hx : Heap.g h 0 = x) :
    Calls Try.prog 15 #[.pointer (some ⟨q, 0, none⟩)] w fun e w' => e = .returned (yes2 x) ∧ Below w.heap.size w w' := by
  have hb : Below w.heap.size w (w.alloc ZC) := (Below.refl _ _).alloc (Nat.le_refl _) _
  have ha2 := ha.below hb
  obtain ⟨g, cap, hbg, hr⟩ := ha2.qrow (by omega)
  have c0 := hr.cell
  rw [hn] at c0
  obtain ⟨a0, a1, a2, a3⟩ := hr.item (i := 0) (by omega)
  rw [hx, Nat.zero_mul] at a0
  rw [hx, Nat.zero_mul, Nat.zero_add] at a1 a2 a3
  have hlt := hr.base
  have H := Lib.hid ha2
  have HN := Lib.hid hn
  clear ha hn hx hbg hr ha2
  go_enter Try.func15, Try.ntmps15
  go_wp2_with fail
  refine (len_is B q b h (n + 1) HN.out _ H.out).mono ?_
  rintro e w1 ⟨rfl, rfl⟩
  have hz : (((n + 1 : Nat) : Int) == 0) = false := by simp; omega
  have hz2 : ((n : Int) + 1 == 0) = false := by simp; omega
  have n0 : (0 : Int) < (n : Int) + 1 := by omega
  go_wp2
  exact bodyPost_ret (v := yes2 x) (by simp [results, Try.results15, go_sem]) rfl ⟨rfl, (Below.refl _ _).alloc (Nat.le_refl _) _⟩
set_option maxRecDepth 100000 in
theorem pop_nil (now : Int) (w : World) : Calls Try.prog 9 #[.pointer none, .int .i64 now] w fun e w' => e = .returned no2 ∧ Below w.heap.size w w' := by
  go_enter Try.func9, Try.ntmps9
  go_wp2
  exact bodyPost_ret (v := no2) (by simp [results, Try.results9, go_sem]) rfl ⟨rfl, (Below.refl _ _).alloc (Nat.le_refl _) _⟩
set_option maxRecDepth 100000 in
theorem pop_no (B q : Nat) (b : Option Nat) (now : Int) (w : World) (ha : QAt w B q b []) :
    Calls Try.prog 9 #[.pointer (some ⟨q, 0, none⟩), .int .i64 now] w fun e w' => e = .returned no2 ∧ Below w.heap.size w w' := by
  have hb : Below w.heap.size w (w.alloc ZC) := (Below.refl _ _).alloc (Nat.le_refl _) _
  obtain ⟨A, cap, c0⟩ := (ha.below hb).form
  have c1 : (w.alloc ZC).cell? ⟨q, 0, none⟩ = some (.slice A 0 cap) := c0
  clear ha c0
  go_enter Try.func9, Try.ntmps9
  go_wp2
  exact bodyPost_ret (v := no2) (by simp [results, Try.results9, go_sem]) rfl ⟨rfl, hb⟩
set_option maxRecDepth 100000 in
theorem pop_late (B q : Nat) (b : Option Nat) (h : List It) (x : It) (n : Nat) (now : Int) (w : World) (ha : QAt w B q b h) (hn : h.length = n + 1) (hx : Heap.g h 0 = x) (hl : now < x.due) :
    Calls Try.prog 9 #[.pointer (some ⟨q, 0, none⟩), .int .i64 now] w fun e w' => e = .returned no2 ∧ Below w.heap.size w w' := by
  have hb : Below w.heap.size w (w.alloc ZC) := (Below.refl _ _).alloc (Nat.le_refl _) _
  obtain ⟨g, cap, hbg, hr⟩ := (ha.below hb).qrow (by omega)
  have c0 := hr.cell
  rw [hn] at c0
  obtain ⟨a0, a1, a2, a3⟩ := hr.item (i := 0) (by omega)
  rw [hx, Nat.zero_mul] at a0
  have hz : (((n + 1 : Nat) : Int) == 0) = false := by simp; omega
  have hz2 : ((n : Int) + 1 == 0) = false := by simp; omega
  have n0 : (0 : Int) < (n : Int) + 1 := by omega
  clear ha hn hx hbg hr a1 a2 a3
  go_enter Try.func9, Try.ntmps9
  go_wp2
  exact bodyPost_ret (v := no2) (by simp [results, Try.results9, go_sem]) rfl ⟨rfl, hb⟩
theorem take_any (B q g cap i : Nat) (h : List It) (x : It) (w : World) (hr : QRow w B q g cap h) (ho : Heap.Ok lt h) (hi : i < h.length) (hl : h.length ≤ 1000) (hx : Heap.g h i = x) :
    Calls Try.prog 17 #[.pointer (some ⟨q, 0, none⟩), .int .i64 i] w fun e w' => e = .returned (iv x.due x.stamp x.hi x.lo) ∧ ∃ h', QRow w' B q g cap h' ∧ (x :: h').Perm h ∧ Heap.Ok lt h' ∧ Kp w w' q (some g) :=
  take_w B q g cap i (h.length - 1) h x _ w hr ho (by omega) (by omega) (by omega) hx rfl
theorem take_zero (B q g cap : Nat) (h : List It) (x : It) (w : World) (hr : QRow w B q g cap h) (ho : Heap.Ok lt h) (hi : 0 < h.length) (hl : h.length ≤ 1000) (hx : Heap.g h 0 = x) :
    Calls Try.prog 17 #[.pointer (some ⟨q, 0, none⟩), .int .i64 0] w fun e w' => e = .returned (iv x.due x.stamp x.hi x.lo) ∧ ∃ h', QRow w' B q g cap h' ∧ (x :: h').Perm h ∧ Heap.Ok lt h' ∧ Kp w w' q (some g) :=
  take_any B q g cap 0 h x w hr ho hi hl hx
/-- what a taking leaves: the row lies where it lay -/
structure Took (w w' : World) (B q : Nat) (b : Option Nat) (h' : List It) : Prop where
  at_ : QAt w' B q b h'
  ok : Heap.Ok lt h'
  kp : Kp w w' q b
set_option maxRecDepth 100000 in
set_option maxHeartbeats 2000000 in
theorem pop_yes (B q : Nat) (b : Option Nat) (h : List It) (x : It) (n : Nat) (now : Int) (w : World) (ha : QAt w B q b h) (ho : Heap.Ok lt h) (hn : h.length = n + 1) (hn9 : n ≤ 900) (hx : Heap.g h 0 = x) (hl : ¬ now < x.due) :
    Calls Try.prog 9 #[.pointer (some ⟨q, 0, none⟩), .int .i64 now] w fun e w' => e = .returned (yes2 x) ∧ ∃ h', (x :: h').Perm h ∧ Took w w' B q b h' := by
  have hb : Below w.heap.size w (w.alloc ZC) := (Below.refl _ _).alloc (Nat.le_refl _) _
  have ha2 := ha.below hb
  obtain ⟨g, cap, hbg, hr⟩ := ha2.qrow (by omega)
  have c0 := hr.cell
  rw [hn] at c0
  obtain ⟨a0, a1, a2, a3⟩ := hr.item (i := 0) (by omega)
  rw [hx, Nat.zero_mul] at a0
  have hz : (((n + 1 : Nat) : Int) == 0) = false := by simp; omega
  have hz2 : ((n : Int) + 1 == 0) = false := by simp; omega
  have n0 : (0 : Int) < (n : Int) + 1 := by omega
  have Br : Blk (w.alloc ZC) w.heap.size 34 #[.int .i64 0, .int .i64 0, .int .u64 0, .int .u64 0] := Blk.new _ _ _
  have hgl : g < w.heap.size := by
    obtain ⟨g', cap', hbg', hr'⟩ := ha.qrow (by omega)
    rw [hbg] at hbg'
    injection hbg' with e
    rw [e]
    exact hr'.base.2
  have hql : q < w.heap.size := by
    obtain ⟨v, r1, _⟩ := ha.row
    exact r1.lt
  have HH := Lib.hid (And.intro hr (And.intro ho (And.intro hn (And.intro hx (And.intro hbg (And.intro Br ha.hB))))))
  clear ha ha2 hn hx hbg hr a1 a2 a3 ho Br
  go_enter Try.func9, Try.ntmps9
  go_wp2_with fail
  refine (take_zero B q g cap h x _ HH.out.1 HH.out.2.1 (by have := HH.out.2.2.1; omega) (by have := HH.out.2.2.1; omega) HH.out.2.2.2.1).mono ?_
  rintro e w1 ⟨rfl, h1, hr1, hp1, ho1, hk1⟩
  obtain ⟨_, _, _, _, hbg, Br, hBs⟩ := HH.out
  have Br1 : Blk w1 w.heap.size 34 #[.int .i64 0, .int .i64 0, .int .u64 0, .int .u64 0] := (hk1.block w.heap.size (by simp) (by omega) (by intro e; injection e with e; omega)).trans Br
  obtain ⟨z0, z1, z2, z3⟩ := item_cells Br1
  have g0 := Br1.frozen 0
  have g1 := Br1.frozen 1
  have g2 := Br1.frozen 2
  have g3 := Br1.frozen 3
  have HK := Lib.hid (And.intro hr1 hk1)
  clear c0 a0 hr1 hk1
  go_wp2
  have Bf := zero_set Br1 x.due x.stamp x.hi x.lo
  obtain ⟨q0, q1, q2, q3⟩ := item_cells Bf
  have hgf := grown_set (grown_set (grown_set (grown_set (World.grownBy.refl w1 (some w.heap.size)) 0 (.int .i64 x.due)) 1 (.int .i64 x.stamp)) 2 (.int .u64 x.hi)) 3 (.int .u64 x.lo)
  obtain ⟨hr1, hk1⟩ := HK.out
  have hK : Kp w w1 q b := by
    rw [hbg]
    exact (Kp.of_below hb).trans hk1
  have hsz := hK.size
  refine bodyPost_ret (v := yes2 x) (by simp [results, Try.results9, go_sem, q0, q1, q2, q3]) rfl ⟨rfl, h1, hp1, ?_, ho1, ?_⟩
  · rw [hbg]
    refine QRow.at_ (g := g) (cap := cap) ⟨hr1.hq, hr1.blk.grown hgf (by simp; omega), hr1.own.kept hgf (.inr (by simp [Value.ownBlock]; omega))⟩ (Nat.le_trans hBs (Nat.le_trans hsz hgf.size))
  · exact ⟨hgf.os.trans hK.os, hgf.tape.trans hK.tape, hgf.output.trans hK.output, Nat.le_trans hsz hgf.size, fun k hk h1 h2 => (hgf.block k (Nat.lt_of_lt_of_le hk hsz) (by simp; omega)).trans (hK.block k hk h1 h2)⟩
end Go.Proofs.Ytmepipnledoinaa
