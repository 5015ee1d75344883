/- The contracts of Put, Len, First, Pop, Drop. Conditions: a heap of few items. -/
import Derived.Test.YtmepipnledoinaaTake
import Derived.Deep.AppendLies
import Derived.Deep.RegionLaw
import Derived.Deep.DrawnRows
namespace Go.Proofs.Ytmepipnledoinaa
open Go.RowKit Go.BigFrame
attribute [local go_sem ↓] Go.wp_at_zero Go.wp_at_succ
theorem Try.info34 : (Try.prog.info? 34).map (fun i => (i.zero, i.size, i.bytes)) = some (some (.agg #[.int .i64 0, .int .i64 0, .int .u64 0, .int .u64 0]), 4, 32) := by kernel_rfl
/-- a queue, its row in block b, or nowhere yet -/
structure QAt (w : World) (B q : Nat) (b : Option Nat) (h : List It) : Prop where
  hq : q < B
  hB : B ≤ w.heap.size
  row : ∃ v, Blk w q 27 #[v] ∧ w.ownsRow B 34 4 v h.length (flat h) ∧ v.ownBlock = b
section
variable {w w' : World} {B q : Nat} {b : Option Nat} {h : List It}
theorem QAt.new (w : World) : QAt (w.alloc (.cells #[.slice none 0 0] 27)) (w.heap.size + 1) w.heap.size none [] :=
  ⟨by omega, by simp, _, Blk.new _ _ _, World.ownsRow_nil _ _ _ _, rfl⟩
theorem QAt.qrow (a : QAt w B q b h) (hn : 0 < h.length) : ∃ g cap, b = some g ∧ QRow w B q g cap h := by
  obtain ⟨v, h1, h2, h3⟩ := a.row
  obtain ⟨g, cap, rfl, _, _⟩ := h2.form hn
  exact ⟨g, cap, h3.symm, a.hq, h1, h2⟩
theorem QRow.at_ {g cap : Nat} (r : QRow w B q g cap h) (hB : B ≤ w.heap.size) : QAt w B q (some g) h := ⟨r.hq, hB, _, r.blk, r.own, rfl⟩
theorem QAt.kept (a : QAt w B q b h) {q' : Nat} {b' : Option Nat} (k : Kp w w' q' b') (h1 : q ≠ q') (h2 : some q ≠ b') (h3 : ∀ g, b = some g → g ≠ q' ∧ some g ≠ b') : QAt w' B q b h := by
  obtain ⟨v, r1, r2, r3⟩ := a.row
  refine ⟨a.hq, Nat.le_trans a.hB k.size, v, (k.block q r1.lt h1 h2).trans r1, ⟨r2.1, ?_⟩, r3⟩
  rcases r2.2 with e | ⟨g, cap, cur, e1, e2, e3, e4⟩
  · exact .inl e
  · have hb : b = some g := by rw [← r3, e1]; rfl
    have hg : g < w.heap.size := (r2.lt g (by rw [e1]; rfl)).2
    exact .inr ⟨g, cap, cur, e1, e2, (k.block g hg (h3 g hb).1 (h3 g hb).2).trans e3, e4⟩
theorem QAt.below (a : QAt w B q b h) (hb : Below w.heap.size w w') : QAt w' B q b h := by
  obtain ⟨v, r1, r2, r3⟩ := a.row
  exact ⟨a.hq, Nat.le_trans a.hB hb.size, v, r1.below hb r1.lt, own_below r2 hb, r3⟩
end
/-- what an operation on a queue leaves: the row may have moved to new memory -/
structure Left (w w' : World) (B q : Nat) (b : Option Nat) (h' : List It) : Prop where
  at_ : ∃ b', QAt w' B q b' h' ∧ (b' = b ∨ ∃ k, b' = some k ∧ w.heap.size ≤ k)
  ok : Heap.Ok lt h'
  kp : Kp w w' q b
set_option maxRecDepth 1000000 in
set_option maxHeartbeats 16000000 in
theorem put_any (B q : Nat) (b : Option Nat) (h : List It) (x : It) (w : World) (ha : QAt w B q b h) (ho : Heap.Ok lt h) (hl : h.length ≤ 900) :
    Calls Try.prog 8 #[.pointer (some ⟨q, 0, none⟩), iv x.due x.stamp x.hi x.lo] w fun e w' => e = .returned (.tuple #[]) ∧ ∃ h', h'.Perm (x :: h) ∧ Left w w' B q b h' := by
  obtain ⟨i0, hi0, hz0, hz1, hz2⟩ := info_parts Try.info34
  obtain ⟨hq, hB, v, hbv, hown, hvb⟩ := ha
  have lq := hbv.lt
  have HO := Lib.hid (And.intro ho (And.intro hbv hvb))
  have hn1 : h.length + 1 ≤ maxLen := by unfold maxLen; omega
  have hn2 : (h.length + 1) * 32 ≤ 140737488355328 := by omega
  have hne : v.ownBlock ≠ some q := by
    intro e
    have := (hown.lt q e).1
    omega
  have Bb : Blk (w.alloc (.cells #[.int .i64 x.due, .int .i64 x.stamp, .int .u64 x.hi, .int .u64 x.lo] 34)) w.heap.size 34 #[.int .i64 x.due, .int .i64 x.stamp, .int .u64 x.hi, .int .u64 x.lo] := Blk.new _ _ _
  have c0 : ∀ o, (w.alloc o).cell? ⟨q, 0, none⟩ = some v := fun o => (hbv.alloc o).cell 0
  have c1 : ∀ o o2, ((w.alloc o).alloc o2).drew.cell? ⟨q, 0, none⟩ = some v := fun o o2 => ((hbv.alloc o).alloc o2).drew.cell 0
  have f1 : ∀ o o2, ((w.alloc o).alloc o2).drew.frozen? ⟨q, 0, none⟩ = false := fun o o2 => ((hbv.alloc o).alloc o2).drew.frozen 0
  clear hbv ho hvb
  go_enter Try.func8, Try.ntmps8
  go_wp2_with fail
  go_region_law
    ((refine step_append_lies _ (by rfl) _ _ _ (by rfl) B 34 i0 _ 4 32 Try.underlying25 hi0 hz0 hz1 hz2 rfl (by omega) v h.length (flat h) (by rfl) (((hown.alloc _).alloc _).drew)
        ⟨w.heap.size + 1, 0, none⟩ 1 1 [.int .i64 x.due, .int .i64 x.stamp, .int .u64 x.hi, .int .u64 x.lo] (by rfl) (by rfl) (World.news_of_block (cs := #[.int .i64 x.due, .int .i64 x.stamp, .int .u64 x.hi, .int .u64 x.lo]) (t := 34) (fr := (0, 0)) (heap_alloc2_new w _ _)) (by simp [Value.oneCell'])
        (by omega) hn1 hn2 (by simp; omega) (w.heap.size + 2) (by simp) ?_; intro gg cap w1 hown1 hgrow hat1 hlt1; have cq : w1.cell? ⟨q, 0, none⟩ = some v := (hgrow.cell_far ⟨q, 0, none⟩ (by simp; omega) (Ne.symm hne)).trans (c1 _ _); have fq : w1.frozen? ⟨q, 0, none⟩ = false := (hgrow.frozen_far ⟨q, 0, none⟩ (by simp; omega) (Ne.symm hne)).trans (f1 _ _)))
  all_goals
    have hb1 : Blk w1 q 27 #[v] := (((HO.out.2.1.alloc (.cells #[.int .i64 x.due, .int .i64 x.stamp, .int .u64 x.hi, .int .u64 x.lo] 34)).alloc (.cells #[.int .i64 x.due, .int .i64 x.stamp, .int .u64 x.hi, .int .u64 x.lo] 34)).drew).grown hgrow (Ne.symm hne)
    have hl1 : (h ++ [x]).length = h.length + 1 := by simp
    have hr2 : QRow (w1.setCell ⟨q, 0, none⟩ (.slice (some ⟨gg, 0, none⟩) (h.length + 1) cap)) B q gg cap (h ++ [x]) := by
      refine ⟨hq, ?_, ?_⟩
      · rw [hl1]; exact hb1.set_ 0 _
      · rw [hl1, flat_append]
        exact ownsRow_setCell_below hown1 hq _
    have hup := Heap.Up.put HO.out.1 x
    have hk1 : Kp w w1 q b := by
      have k1 : Below w.heap.size w ((w.alloc (.cells #[.int .i64 x.due, .int .i64 x.stamp, .int .u64 x.hi, .int .u64 x.lo] 34)).alloc (.cells #[.int .i64 x.due, .int .i64 x.stamp, .int .u64 x.hi, .int .u64 x.lo] 34)).drew := (((Below.refl _ _).alloc (Nat.le_refl _) _).alloc (by simp) _).drew
      have k2 := Kp.of_grown (q := q) hgrow
      rw [HO.out.2.2] at k2
      exact (Kp.of_below k1).trans k2
    have hk2 := hk1.setq 0 (.slice (some ⟨gg, 0, none⟩) (h.length + 1) cap)
    have hgq : gg ≠ q := by
      have := hr2.base
      omega
    have hcq : (w1.setCell ⟨q, 0, none⟩ (.slice (some ⟨gg, 0, none⟩) (h.length + 1) cap)).cell? ⟨q, 0, none⟩ = some (.slice (some ⟨gg, 0, none⟩) (h.length + 1) cap) := by
      have := hr2.cell
      rwa [hl1] at this
    have hgb : ∀ k, k < w.heap.size → some k ≠ b → k ≠ gg := by
      intro k hk hkb e
      subst e
      rcases hat1 with e1 | e1
      · rw [HO.out.2.2] at e1; exact hkb e1.symm
      · omega
    have hbb : some gg = b ∨ ∃ k, some gg = some k ∧ w.heap.size ≤ k := by
      rcases hat1 with e1 | e1
      · rw [HO.out.2.2] at e1; exact .inl e1.symm
      · exact .inr ⟨gg, rfl, by omega⟩
    have HH := Lib.hid (And.intro hr2 (And.intro hup (And.intro hk2 (And.intro hl1 (And.intro hgb hbb)))))
    clear hb1 hl1 hr2 hup hk1 hk2 hgb hbb hgrow hat1 hown1 cq fq c0 c1 f1 hown hne Bb
    generalize (w1.setCell ⟨q, 0, none⟩ (.slice (some ⟨gg, 0, none⟩) (h.length + 1) cap)) = W at *
    go_wp2_with fail
    refine (up_any B q gg cap h.length _ _ HH.out.1 HH.out.2.1 (by rw [HH.out.2.2.2.1]; omega)).mono ?_
    rintro e w3 ⟨rfl, h3, hr3, hl3, hp3, ho3, hg3⟩
    go_wp2
    go_end0
    obtain ⟨r1, r2, r3, r4, r5, r6⟩ := HH.out
    refine ⟨rfl, h3, hp3.trans (List.perm_append_singleton x h), ⟨some gg, hr3.at_ ?_, r6⟩, ho3, ?_⟩
    · have := r3.size
      have := hg3.size
      omega
    · exact ⟨hg3.os.trans r3.os, hg3.tape.trans r3.tape, hg3.output.trans r3.output, Nat.le_trans r3.size hg3.size, fun k hk h1 h2 => (hg3.block k (Nat.lt_of_lt_of_le hk r3.size) (by intro e; injection e with e; exact r5 k hk h2 e)).trans (r3.block k hk h1 h2)⟩
theorem put_nil (a b c d : Int) (w : World) : Calls Try.prog 8 #[.pointer none, iv a b c d] w fun e w' => e = .returned (.tuple #[]) ∧ Below w.heap.size w w' := by
  go_enter Try.func8, Try.ntmps8
  go_wp2
  go_end0
  exact ⟨rfl, (Below.refl _ _).alloc (Nat.le_refl _) _⟩
end Go.Proofs.Ytmepipnledoinaa
