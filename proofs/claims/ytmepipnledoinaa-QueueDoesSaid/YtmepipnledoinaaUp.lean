/- The contract of up: an item goes up till the one above it is ahead. Conditions: a heap but for that item. -/
import Derived.Test.YtmepipnledoinaaQClass
import Derived.BigRegion
namespace Go.Proofs.Ytmepipnledoinaa
open Go.RowKit Go.BigFrame
structure UpInv (w : World) (B q g cap : Nat) (h : List It) (i : Nat) (h' : List It) (v : Value) (k : Nat) (wr : World) : Prop where
  v : v = .int .i64 (i : Int)
  le : i ≤ k
  c : QC w B q g cap h' wr
  up : Heap.Up lt h' i
  len : h'.length = h.length
  perm : h'.Perm h
/-- two items change places -/
theorem QC.swap {w0 w : World} {B q g cap : Nat} {h : List It} (c : QC w0 B q g cap h w) (i j : Nat) : QC w0 B q g cap (Heap.swap h i j) ((((((((w.setCell ⟨g, i * 4, none⟩ (.int .i64 (Heap.g h j).due)).setCell ⟨g, i * 4 + 1, none⟩ (.int .i64 (Heap.g h j).stamp)).setCell ⟨g, i * 4 + 2, none⟩ (.int .u64 (Heap.g h j).hi)).setCell ⟨g, i * 4 + 3, none⟩ (.int .u64 (Heap.g h j).lo)).setCell ⟨g, j * 4, none⟩ (.int .i64 (Heap.g h i).due)).setCell ⟨g, j * 4 + 1, none⟩ (.int .i64 (Heap.g h i).stamp)).setCell ⟨g, j * 4 + 2, none⟩ (.int .u64 (Heap.g h i).hi)).setCell ⟨g, j * 4 + 3, none⟩ (.int .u64 (Heap.g h i).lo)) :=
  ⟨(c.row.set i (Heap.g h j)).set j (Heap.g h i), grown_set (grown_set (grown_set (grown_set (grown_set (grown_set (grown_set (grown_set c.grow _ _) _ _) _ _) _ _) _ _) _ _) _ _) _ _⟩
theorem QC.swapx {w0 w : World} {B q g cap : Nat} {h : List It} {x y : It} (c : QC w0 B q g cap h w) {i j : Nat} (hx : Heap.g h i = x) (hy : Heap.g h j = y) : QC w0 B q g cap (Heap.swap h i j) ((((((((w.setCell ⟨g, i * 4, none⟩ (.int .i64 y.due)).setCell ⟨g, i * 4 + 1, none⟩ (.int .i64 y.stamp)).setCell ⟨g, i * 4 + 2, none⟩ (.int .u64 y.hi)).setCell ⟨g, i * 4 + 3, none⟩ (.int .u64 y.lo)).setCell ⟨g, j * 4, none⟩ (.int .i64 x.due)).setCell ⟨g, j * 4 + 1, none⟩ (.int .i64 x.stamp)).setCell ⟨g, j * 4 + 2, none⟩ (.int .u64 x.hi)).setCell ⟨g, j * 4 + 3, none⟩ (.int .u64 x.lo)) := by
  subst hx hy
  exact c.swap i j
set_option maxRecDepth 1000000 in
set_option maxHeartbeats 8000000 in
theorem up_any (B q g cap i : Nat) (h : List It) (w : World) (hr : QRow w B q g cap h) (hu : Heap.Up lt h i) (hl : h.length ≤ 1000) :
    Calls Try.prog 16 #[.pointer (some ⟨q, 0, none⟩), .int .i64 i] w fun e w' => e = .returned (.tuple #[]) ∧ ∃ h', QRow w' B q g cap h' ∧ h'.length = h.length ∧ h'.Perm h ∧ Heap.Ok lt h' ∧ w.grownBy w' (some g) := by
  have H := Lib.hid (And.intro hr hu)
  clear hr hu
  go_enter Try.func16, Try.ntmps16
  go_wp2_with fail
  go_loopg [1] i (fun k v wr => ∃ (j : Nat) (h' : List It), UpInv w B q g cap h j h' v k wr)
  case atStart => exact ⟨i, h, rfl, Nat.le_refl _, ⟨H.out.1, World.grownBy.refl _ _⟩, H.out.2, rfl, List.Perm.refl _⟩
  case round =>
    obtain ⟨j, h', rfl, hle, hc, hup, hlen, hperm⟩ := hrel
    have hjl := hup.bd
    by_cases hj : 0 < j
    · obtain ⟨p, hp⟩ : ∃ p : Nat, ((j : Int) - 1) / 2 = (p : Int) := ⟨(j - 1) / 2, by omega⟩
      have hpp : Heap.par j = p := by unfold Heap.par; omega
      have hpj : p < j := by omega
      have hpl : p < h'.length := by omega
      obtain ⟨x, hx⟩ : ∃ x, Heap.g h' j = x := ⟨_, rfl⟩
      obtain ⟨y, hy⟩ : ∃ y, Heap.g h' p = y := ⟨_, rfl⟩
      have j0 : (0 : Int) ≤ (j : Int) := by omega
      have j1 : (0 : Int) < (j : Int) := by omega
      have j2 : (j : Int) < (h'.length : Int) := by omega
      have p0 : (0 : Int) ≤ (p : Int) := by omega
      have p2 : (p : Int) < (h'.length : Int) := by omega
      have e1 : IntKind.i64.wrap ((j : Int) - 1) = (j : Int) - 1 := IntWalk.i64_in _ (by omega)
      have hp2 : ((j : Int) - 1).tdiv 2 = (p : Int) := by rw [Int.tdiv_eq_ediv_of_nonneg (by omega)]; exact hp
      have hp3 : wrap64 (p : Int) = (p : Int) := IntWalk.wrap64_in _ (by omega)
      have hd : decide ((0 : Int) < (j : Int)) = true := decide_eq_true j1
      have HH := Lib.hid (And.intro hup (And.intro hlen hperm))
      have HX := Lib.hid (And.intro hx (And.intro hy (And.intro (And.intro hpp hle) (And.intro hpl hjl))))
      have HC := Lib.hid hc
      clear hup hlen hperm hx hy hpp hle hc
      cases hb : lt x y
      · have HB := fun w => before_is x y false hb w
        go_wp2_with fail
        refine region_class (C := QC w B q g cap h') (by kernel_rfl) (by kernel_rfl) HC.out.drew ?_
        try simp only [List.append]
        go_big_quiet_want; go_big_quiet_op; first | go_big_quiet_on | (refine ⟨_, fun _ _ => rfl, ?_⟩; go_big_quiet_on)
        go_big_quiet_want; go_big_quiet_op; first | go_big_quiet_on | (refine ⟨_, fun _ _ => rfl, ?_⟩; go_big_quiet_on)
        go_big_quiet_want; go_big_quiet_op; first | go_big_quiet_on | (refine ⟨_, fun _ _ => rfl, ?_⟩; go_big_quiet_on)
        first | go_big_quiet_skip | (go_big_quiet_want; go_big_quiet_op; first | go_big_quiet_on | (refine ⟨_, fun _ _ => rfl, ?_⟩; go_big_quiet_on))
        first | go_big_quiet_skip | (go_big_quiet_want; go_big_quiet_op; first | go_big_quiet_on | (refine ⟨_, fun _ _ => rfl, ?_⟩; go_big_quiet_on))
        first | go_big_quiet_skip | (go_big_quiet_want; go_big_quiet_op; first | go_big_quiet_on | (refine ⟨_, fun _ _ => rfl, ?_⟩; go_big_quiet_on))
        first | go_big_quiet_skip | (go_big_quiet_want; refine quiet_q _ (fun w c => c.row.cell) rfl rfl ?_; go_big_quiet_on; refine wq_cast (by simp only [Act.put, List.setIfInBounds_toArray, List.set_cons_zero, List.set_cons_succ]; rfl) ?_)
        first | go_big_quiet_skip | (go_big_quiet_want; go_big_quiet_op; first | go_big_quiet_on | (refine ⟨_, fun _ _ => rfl, ?_⟩; go_big_quiet_on))
        first | go_big_quiet_skip | (go_big_quiet_want; go_big_quiet_op; first | go_big_quiet_on | (refine ⟨_, fun _ _ => rfl, ?_⟩; go_big_quiet_on))
        first | go_big_quiet_skip | (go_big_quiet_want; refine quiet_item _ (fun w c => c.item (HX.out.2.2.2.2) HX.out.1) rfl rfl ?_; go_big_quiet_on; refine wq_cast (by simp only [Act.put, List.setIfInBounds_toArray, List.set_cons_zero, List.set_cons_succ]; rfl) ?_)
        first | go_big_quiet_skip | (go_big_quiet_want; go_big_quiet_op; first | go_big_quiet_on | (refine ⟨_, fun _ _ => rfl, ?_⟩; go_big_quiet_on))
        first | go_big_quiet_skip | (go_big_quiet_want; go_big_quiet_op; first | go_big_quiet_on | (refine ⟨_, fun _ _ => rfl, ?_⟩; go_big_quiet_on))
        first | go_big_quiet_skip | (go_big_quiet_want; go_big_quiet_op; first | go_big_quiet_on | (refine ⟨_, fun _ _ => rfl, ?_⟩; go_big_quiet_on))
        first | go_big_quiet_skip | (go_big_quiet_want; refine quiet_q _ (fun w c => c.row.cell) rfl rfl ?_; go_big_quiet_on; refine wq_cast (by simp only [Act.put, List.setIfInBounds_toArray, List.set_cons_zero, List.set_cons_succ]; rfl) ?_)
        first | go_big_quiet_skip | (go_big_quiet_want; go_big_quiet_op; first | go_big_quiet_on | (refine ⟨_, fun _ _ => rfl, ?_⟩; go_big_quiet_on))
        first | go_big_quiet_skip | (go_big_quiet_want; go_big_quiet_op; first | go_big_quiet_on | (refine ⟨_, fun _ _ => rfl, ?_⟩; go_big_quiet_on))
        first | go_big_quiet_skip | (go_big_quiet_want; go_big_quiet_op; first | go_big_quiet_on | (refine ⟨_, fun _ _ => rfl, ?_⟩; go_big_quiet_on))
        first | go_big_quiet_skip | (go_big_quiet_want; go_big_quiet_op; first | go_big_quiet_on | (refine ⟨_, fun _ _ => rfl, ?_⟩; go_big_quiet_on))
        first | go_big_quiet_skip | (go_big_quiet_want; refine quiet_item _ (fun w c => c.item (HX.out.2.2.2.1) HX.out.2.1) rfl rfl ?_; go_big_quiet_on; refine wq_cast (by simp only [Act.put, List.setIfInBounds_toArray, List.set_cons_zero, List.set_cons_succ]; rfl) ?_)
        first | go_big_quiet_skip | (go_big_quiet_want; refine quiet_call2 _ rfl Try.func18 (by kernel_rfl) (by kernel_rfl) (by simp only [List.map_toArray, List.map]; rfl) (fun w' hw => (HB w').mono fun e w'' h => ⟨h.1, hw.next h.2⟩) ?_; go_big_quiet_on; refine wq_cast (by simp only [Act.put, List.setIfInBounds_toArray, List.set_cons_zero, List.set_cons_succ]; rfl) ?_)
        go_big_quiet_want; go_big_quiet_op; first | go_big_quiet_on | (refine ⟨_, fun _ _ => rfl, ?_⟩; go_big_quiet_on)
        refine wpQuiet_nil ?_
        intro w4 hw4
        go_wp2
        go_end0
        refine ⟨rfl, h', hw4.row, HH.out.2.1, HH.out.2.2, HH.out.1.stop ?_, hw4.grow⟩
        rintro ⟨_, h2⟩
        rw [HX.out.2.2.1.1, HX.out.1, HX.out.2.1, hb] at h2
        cases h2
      · have HB := fun w => before_is x y true hb w
        go_wp2_with fail
        refine region_class (C := QC w B q g cap h') (by kernel_rfl) (by kernel_rfl) HC.out.drew ?_
        try simp only [List.append]
        go_big_quiet_want; go_big_quiet_op; first | go_big_quiet_on | (refine ⟨_, fun _ _ => rfl, ?_⟩; go_big_quiet_on)
        go_big_quiet_want; go_big_quiet_op; first | go_big_quiet_on | (refine ⟨_, fun _ _ => rfl, ?_⟩; go_big_quiet_on)
        go_big_quiet_want; go_big_quiet_op; first | go_big_quiet_on | (refine ⟨_, fun _ _ => rfl, ?_⟩; go_big_quiet_on)
        first | go_big_quiet_skip | (go_big_quiet_want; go_big_quiet_op; first | go_big_quiet_on | (refine ⟨_, fun _ _ => rfl, ?_⟩; go_big_quiet_on))
        first | go_big_quiet_skip | (go_big_quiet_want; go_big_quiet_op; first | go_big_quiet_on | (refine ⟨_, fun _ _ => rfl, ?_⟩; go_big_quiet_on))
        first | go_big_quiet_skip | (go_big_quiet_want; go_big_quiet_op; first | go_big_quiet_on | (refine ⟨_, fun _ _ => rfl, ?_⟩; go_big_quiet_on))
        first | go_big_quiet_skip | (go_big_quiet_want; refine quiet_q _ (fun w c => c.row.cell) rfl rfl ?_; go_big_quiet_on; refine wq_cast (by simp only [Act.put, List.setIfInBounds_toArray, List.set_cons_zero, List.set_cons_succ]; rfl) ?_)
        first | go_big_quiet_skip | (go_big_quiet_want; go_big_quiet_op; first | go_big_quiet_on | (refine ⟨_, fun _ _ => rfl, ?_⟩; go_big_quiet_on))
        first | go_big_quiet_skip | (go_big_quiet_want; go_big_quiet_op; first | go_big_quiet_on | (refine ⟨_, fun _ _ => rfl, ?_⟩; go_big_quiet_on))
        first | go_big_quiet_skip | (go_big_quiet_want; refine quiet_item _ (fun w c => c.item (HX.out.2.2.2.2) HX.out.1) rfl rfl ?_; go_big_quiet_on; refine wq_cast (by simp only [Act.put, List.setIfInBounds_toArray, List.set_cons_zero, List.set_cons_succ]; rfl) ?_)
        first | go_big_quiet_skip | (go_big_quiet_want; go_big_quiet_op; first | go_big_quiet_on | (refine ⟨_, fun _ _ => rfl, ?_⟩; go_big_quiet_on))
        first | go_big_quiet_skip | (go_big_quiet_want; go_big_quiet_op; first | go_big_quiet_on | (refine ⟨_, fun _ _ => rfl, ?_⟩; go_big_quiet_on))
        first | go_big_quiet_skip | (go_big_quiet_want; go_big_quiet_op; first | go_big_quiet_on | (refine ⟨_, fun _ _ => rfl, ?_⟩; go_big_quiet_on))
        first | go_big_quiet_skip | (go_big_quiet_want; refine quiet_q _ (fun w c => c.row.cell) rfl rfl ?_; go_big_quiet_on; refine wq_cast (by simp only [Act.put, List.setIfInBounds_toArray, List.set_cons_zero, List.set_cons_succ]; rfl) ?_)
        first | go_big_quiet_skip | (go_big_quiet_want; go_big_quiet_op; first | go_big_quiet_on | (refine ⟨_, fun _ _ => rfl, ?_⟩; go_big_quiet_on))
        first | go_big_quiet_skip | (go_big_quiet_want; go_big_quiet_op; first | go_big_quiet_on | (refine ⟨_, fun _ _ => rfl, ?_⟩; go_big_quiet_on))
        first | go_big_quiet_skip | (go_big_quiet_want; go_big_quiet_op; first | go_big_quiet_on | (refine ⟨_, fun _ _ => rfl, ?_⟩; go_big_quiet_on))
        first | go_big_quiet_skip | (go_big_quiet_want; go_big_quiet_op; first | go_big_quiet_on | (refine ⟨_, fun _ _ => rfl, ?_⟩; go_big_quiet_on))
        first | go_big_quiet_skip | (go_big_quiet_want; refine quiet_item _ (fun w c => c.item (HX.out.2.2.2.1) HX.out.2.1) rfl rfl ?_; go_big_quiet_on; refine wq_cast (by simp only [Act.put, List.setIfInBounds_toArray, List.set_cons_zero, List.set_cons_succ]; rfl) ?_)
        first | go_big_quiet_skip | (go_big_quiet_want; refine quiet_call2 _ rfl Try.func18 (by kernel_rfl) (by kernel_rfl) (by simp only [List.map_toArray, List.map]; rfl) (fun w' hw => (HB w').mono fun e w'' h => ⟨h.1, hw.next h.2⟩) ?_; go_big_quiet_on; refine wq_cast (by simp only [Act.put, List.setIfInBounds_toArray, List.set_cons_zero, List.set_cons_succ]; rfl) ?_)
        go_big_quiet_want; go_big_quiet_op; first | go_big_quiet_on | (refine ⟨_, fun _ _ => rfl, ?_⟩; go_big_quiet_on)
        refine wpQuiet_nil ?_
        intro w4 hw4
        clear HC HB
        go_wp2_with fail
        have c0 := hw4.row.cell
        obtain ⟨a0, a1, a2, a3⟩ := hw4.item hjl HX.out.1
        obtain ⟨b0, b1, b2, b3⟩ := hw4.item hpl HX.out.2.1
        have fz := hw4.row.free
        have hqg : q < g := by have := hw4.row.base; have := hw4.row.hq; omega
        have HW := Lib.hid hw4
        clear hw4
        go_region
        clear c0 a0 a1 a2 a3 b0 b1 b2 b3 fz
        go_wp2
        go_roundg p
        case measure => have := HX.out.2.2.1.2; omega
        case rel =>
          have hs := (HW.out.swapx HX.out.1 HX.out.2.1).drew
          have hup := HH.out.1.step lt_ord hj (by rw [HX.out.2.2.1.1, HX.out.1, HX.out.2.1]; exact hb)
          rw [HX.out.2.2.1.1] at hup
          exact ⟨p, Heap.swap h' j p, by first | rfl | rw [hp3], Nat.le_refl _, hs, hup, by rw [Heap.swap_length, HH.out.2.1], (Heap.swap_perm h' j p hjl hpl).trans HH.out.2.2⟩
    · obtain rfl : j = 0 := by omega
      have hd : decide ((0 : Int) < 0) = false := by decide
      have HH := Lib.hid (And.intro hup (And.intro hlen hperm))
      have HC := Lib.hid hc
      clear hup hlen hperm hle hc hj
      go_wp2_with fail
      refine region_class (C := QC w B q g cap h') (by kernel_rfl) (by kernel_rfl) HC.out.drew ?_
      try simp only [List.append]
      go_big_quiet_want; go_big_quiet_op; first | go_big_quiet_on | (refine ⟨_, fun _ _ => rfl, ?_⟩; go_big_quiet_on)
      go_big_quiet_want; go_big_quiet_op; first | go_big_quiet_on | (refine ⟨_, fun _ _ => rfl, ?_⟩; go_big_quiet_on)
      go_big_quiet_want; go_big_quiet_op; first | go_big_quiet_on | (refine ⟨_, fun _ _ => rfl, ?_⟩; go_big_quiet_on)
      first | go_big_quiet_skip | (go_big_quiet_want; go_big_quiet_op; first | go_big_quiet_on | (refine ⟨_, fun _ _ => rfl, ?_⟩; go_big_quiet_on))
      first | go_big_quiet_skip | (go_big_quiet_want; go_big_quiet_op; first | go_big_quiet_on | (refine ⟨_, fun _ _ => rfl, ?_⟩; go_big_quiet_on))
      first | go_big_quiet_skip | (go_big_quiet_want; go_big_quiet_op; first | go_big_quiet_on | (refine ⟨_, fun _ _ => rfl, ?_⟩; go_big_quiet_on))
      first | go_big_quiet_skip | (go_big_quiet_want; go_big_quiet_op; first | go_big_quiet_on | (refine ⟨_, fun _ _ => rfl, ?_⟩; go_big_quiet_on))
      first | go_big_quiet_skip | (go_big_quiet_want; go_big_quiet_op; first | go_big_quiet_on | (refine ⟨_, fun _ _ => rfl, ?_⟩; go_big_quiet_on))
      first | go_big_quiet_skip | (go_big_quiet_want; go_big_quiet_op; first | go_big_quiet_on | (refine ⟨_, fun _ _ => rfl, ?_⟩; go_big_quiet_on))
      first | go_big_quiet_skip | (go_big_quiet_want; go_big_quiet_op; first | go_big_quiet_on | (refine ⟨_, fun _ _ => rfl, ?_⟩; go_big_quiet_on))
      first | go_big_quiet_skip | (go_big_quiet_want; go_big_quiet_op; first | go_big_quiet_on | (refine ⟨_, fun _ _ => rfl, ?_⟩; go_big_quiet_on))
      first | go_big_quiet_skip | (go_big_quiet_want; go_big_quiet_op; first | go_big_quiet_on | (refine ⟨_, fun _ _ => rfl, ?_⟩; go_big_quiet_on))
      first | go_big_quiet_skip | (go_big_quiet_want; go_big_quiet_op; first | go_big_quiet_on | (refine ⟨_, fun _ _ => rfl, ?_⟩; go_big_quiet_on))
      first | go_big_quiet_skip | (go_big_quiet_want; go_big_quiet_op; first | go_big_quiet_on | (refine ⟨_, fun _ _ => rfl, ?_⟩; go_big_quiet_on))
      first | go_big_quiet_skip | (go_big_quiet_want; go_big_quiet_op; first | go_big_quiet_on | (refine ⟨_, fun _ _ => rfl, ?_⟩; go_big_quiet_on))
      first | go_big_quiet_skip | (go_big_quiet_want; go_big_quiet_op; first | go_big_quiet_on | (refine ⟨_, fun _ _ => rfl, ?_⟩; go_big_quiet_on))
      first | go_big_quiet_skip | (go_big_quiet_want; go_big_quiet_op; first | go_big_quiet_on | (refine ⟨_, fun _ _ => rfl, ?_⟩; go_big_quiet_on))
      first | go_big_quiet_skip | (go_big_quiet_want; go_big_quiet_op; first | go_big_quiet_on | (refine ⟨_, fun _ _ => rfl, ?_⟩; go_big_quiet_on))
      first | go_big_quiet_skip | (go_big_quiet_want; go_big_quiet_op; first | go_big_quiet_on | (refine ⟨_, fun _ _ => rfl, ?_⟩; go_big_quiet_on))
      first | go_big_quiet_skip | (go_big_quiet_want; go_big_quiet_op; first | go_big_quiet_on | (refine ⟨_, fun _ _ => rfl, ?_⟩; go_big_quiet_on))
      go_big_quiet_want; go_big_quiet_op; first | go_big_quiet_on | (refine ⟨_, fun _ _ => rfl, ?_⟩; go_big_quiet_on)
      refine wpQuiet_nil ?_
      intro w4 hw4
      go_wp2
      go_end0
      exact ⟨rfl, h', hw4.row, HH.out.2.1, HH.out.2.2, HH.out.1.stop (by rintro ⟨h2, _⟩; omega), hw4.grow⟩
end Go.Proofs.Ytmepipnledoinaa
