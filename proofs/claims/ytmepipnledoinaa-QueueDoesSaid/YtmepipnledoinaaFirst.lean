/- The reference's First. Conditions: a list of few items. -/
import Derived.Test.YtmepipnledoinaaRef
import Derived.BigQuiet
import Derived.Deep.QuietTactic
namespace Go.Proofs.Ytmepipnledoinaa
open Go.RowKit Go.BigFrame
theorem rfirst_empty (A : Option Addr) (cap : Nat) (w : World) : Calls Try.prog 14 #[.slice A 0 cap] w fun e w' => e = .returned (.int .i64 (-1)) ∧ Below w.heap.size w w' := by
  go_enter Try.func14, Try.ntmps14
  go_wp2_with fail
  go_loopg [8, 3] 0 (fun k v vb wr => v = .int .i64 0 ∧ vb = .int .i64 (-1) ∧ wr = w)
  case atStart => exact ⟨rfl, rfl, rfl⟩
  case round =>
    obtain ⟨rfl, rfl, rfl⟩ := hrel
    go_wp2
    go_ret
    exact ⟨rfl, Below.refl _ _⟩
/-- the best so far -/
def Best (l : List It) (i : Nat) (b : Int) : Prop := (i = 0 ∧ b = -1) ∨ ∃ m : Nat, m < i ∧ b = (m : Int) ∧ ∀ j, j < i → lt (Heap.g l j) (Heap.g l m) = false
theorem Best.take {l : List It} {i m : Nat} (hm : ∀ j, j < i → lt (Heap.g l j) (Heap.g l m) = false) (hb : lt (Heap.g l i) (Heap.g l m) = true) : Best l (i + 1) (i : Int) := by
  refine .inr ⟨i, by omega, rfl, fun j hj => ?_⟩
  by_cases e : j = i
  · subst e; exact lt_ord.irr _
  · exact lt_ord.trans _ _ _ (lt_ord.asym _ _ hb) (hm j (by omega))
theorem Best.keep {l : List It} {i m : Nat} (hmi : m < i) (hm : ∀ j, j < i → lt (Heap.g l j) (Heap.g l m) = false) (hb : lt (Heap.g l i) (Heap.g l m) = false) : Best l (i + 1) (m : Int) := by
  refine .inr ⟨m, by omega, rfl, fun j hj => ?_⟩
  by_cases e : j = i
  · subst e; exact hb
  · exact hm j (by omega)
theorem Best.one (l : List It) : Best l (0 + 1) ((0 : Nat) : Int) := by
  refine .inr ⟨0, by omega, rfl, fun j hj => ?_⟩
  obtain rfl : j = 0 := by omega
  exact lt_ord.irr _
theorem cells_48 {w : World} {b : Nat} {x y z t : Int} (h : Blk w b 48 #[.int .i64 x, .int .i64 y, .int .u64 z, .int .u64 t]) : w.cell? ⟨b, 0, none⟩ = some (.int .i64 x) ∧ w.cell? ⟨b, 1, none⟩ = some (.int .i64 y) ∧ w.cell? ⟨b, 2, none⟩ = some (.int .u64 z) ∧ w.cell? ⟨b, 3, none⟩ = some (.int .u64 t) := ⟨h.cell 0, h.cell 1, h.cell 2, h.cell 3⟩
structure FirstInv (w : World) (B g cap : Nat) (l : List It) (v vb : Value) (k : Nat) (b : Int) (wr : World) : Prop where
  v : v = .int .i64 ((l.length - k : Nat) : Int)
  vb : vb = .int .i64 b
  le : k ≤ l.length
  row : LRow wr B g cap l
  bel : Below w.heap.size w wr
  best : Best l (l.length - k) b
set_option maxRecDepth 100000 in
set_option maxHeartbeats 8000000 in
theorem rfirst_w (B g cap : Nat) (l : List It) (w : World) (hr : LRow w B g cap l) (hl : l.length ≤ 1000) :
    Calls Try.prog 14 #[.slice (some ⟨g, 0, none⟩) l.length cap] w fun e w' => ∃ b : Int, e = .returned (.int .i64 b) ∧ Best l l.length b ∧ Below w.heap.size w w' := by
  have HH := Lib.hid hr
  clear hr
  go_enter Try.func14, Try.ntmps14
  go_wp2_with fail
  go_loopg [8, 3] l.length (fun k v vb wr => ∃ b, FirstInv w B g cap l v vb k b wr)
  case atStart => exact ⟨-1, by rw [Nat.sub_self]; rfl, rfl, Nat.le_refl _, HH.out, Below.refl _ _, .inl ⟨Nat.sub_self _, rfl⟩⟩
  case round =>
    obtain ⟨b, rfl, rfl, hle, hrow, hbel, hbest⟩ := hrel
    cases gk with
    | zero =>
      rw [Nat.sub_zero] at hbest ⊢
      have HB := Lib.hid (And.intro hbel hbest)
      clear hrow hbel hle hbest
      go_wp2
      go_ret
      exact ⟨b, rfl, HB.out.2, HB.out.1⟩
    | succ k =>
      obtain ⟨i, hi⟩ : ∃ i : Nat, l.length - (k + 1) = i := ⟨_, rfl⟩
      rw [hi] at hbest ⊢
      have hil : i < l.length := by omega
      obtain ⟨x, hx⟩ : ∃ x, Heap.g l i = x := ⟨_, rfl⟩
      have hlg := (hrow.own.lt g rfl).2
      have i2 : (i : Int) < (l.length : Int) := by omega
      have hrow2 := hrow.below ((Below.refl wr.heap.size wr).alloc (Nat.le_refl _) (.cells #[.int .i64 x.due, .int .i64 x.stamp, .int .u64 x.hi, .int .u64 x.lo] 48))
      have Bx : Blk (wr.alloc (.cells #[.int .i64 x.due, .int .i64 x.stamp, .int .u64 x.hi, .int .u64 x.lo] 48)) wr.heap.size 48 #[.int .i64 x.due, .int .i64 x.stamp, .int .u64 x.hi, .int .u64 x.lo] := Blk.new _ _ _
      obtain ⟨x0, x1, x2, x3⟩ := cells_48 Bx
      obtain ⟨a0, a1, a2, a3⟩ := hrow.item hil
      rw [hx] at a0 a1 a2 a3
      have hbel2 := hbel.alloc hbel.size (.cells #[.int .i64 x.due, .int .i64 x.stamp, .int .u64 x.hi, .int .u64 x.lo] 48)
      have hfin : ∀ (b : Int) (nq : Nat), Best l (i + 1) b → FirstInv w B g cap l (.int .i64 ((i : Int) + 1)) (.int .i64 b) k b ((wr.alloc (.cells #[.int .i64 x.due, .int .i64 x.stamp, .int .u64 x.hi, .int .u64 x.lo] 48)).drewN nq) := by
        intro b nq hb
        have hk : l.length - k = i + 1 := by omega
        exact ⟨by rw [hk]; rfl, rfl, by omega, hrow2.below ⟨rfl, rfl, rfl, Nat.le_refl _, fun _ _ => rfl⟩, ⟨hbel2.os, hbel2.tape, hbel2.output, hbel2.size, hbel2.block⟩, by rw [hk]; exact hb⟩
      have HF := Lib.hid hfin
      clear hfin
      rcases hbest with ⟨h0, rfl⟩ | ⟨m, hmi, rfl, hm⟩
      · have HK := Lib.hid (And.intro hi (And.intro h0 hle))
        clear hi hle hrow hbel hbel2 hrow2 Bx h0 hx
        go_wp2_with fail
        generalize (wr.alloc (.cells #[.int .i64 x.due, .int .i64 x.stamp, .int .u64 x.hi, .int .u64 x.lo] 48)) = W8 at *
        go_quiet (fail)
        go_wp2
        go_roundg k
        case measure => omega
        case rel => exact ⟨_, HF.out _ _ (by have := HK.out.2.1; subst this; exact Best.one l)⟩
      · obtain ⟨y, hy⟩ : ∃ y, Heap.g l m = y := ⟨_, rfl⟩
        obtain ⟨y0, y1, y2, y3⟩ := hrow2.item (i := m) (by omega)
        rw [hy] at y0 y1 y2 y3
        have m2 : (m : Int) < (l.length : Int) := by omega
        have HK := Lib.hid (And.intro hi (And.intro hle (And.intro hm (And.intro hmi (And.intro hx hy)))))
        clear hi hle hrow hbel hbel2 hrow2 Bx hm hmi hx hy
        go_wp2_with fail
        generalize (wr.alloc (.cells #[.int .i64 x.due, .int .i64 x.stamp, .int .u64 x.hi, .int .u64 x.lo] 48)) = W8 at *
        have hm0 : decide ((m : Int) < 0) = false := decide_eq_false (by omega)
        by_cases h1 : x.due < y.due
        · have h1b : decide (x.due < y.due) = true := decide_eq_true h1
          have HX := Lib.hid h1
          clear h1
          go_quiet (fail)
          go_wp2
          go_roundg k
          case measure => omega
          case rel =>
            obtain ⟨k1, k2, k3, k4, k5, k6⟩ := HK.out
            exact ⟨_, HF.out _ _ (Best.take k3 (by rw [k5, k6, lt_iff]; exact .inl HX.out))⟩
        · have h1b : decide (x.due < y.due) = false := decide_eq_false h1
          by_cases h2 : x.due = y.due
          · have h2b : (x.due == y.due) = true := by simpa using h2
            by_cases h3 : x.stamp < y.stamp
            · have h3b : decide (x.stamp < y.stamp) = true := decide_eq_true h3
              have HX := Lib.hid (And.intro h1 (And.intro h2 h3))
              clear h1 h2 h3
              go_quiet (fail)
              go_wp2
              go_roundg k
              case measure => omega
              case rel =>
                obtain ⟨k1, k2, k3, k4, k5, k6⟩ := HK.out
                exact ⟨_, HF.out _ _ (Best.take k3 (by rw [k5, k6, lt_iff]; exact .inr HX.out.2))⟩
            · have h3b : decide (x.stamp < y.stamp) = false := decide_eq_false h3
              have HX := Lib.hid (And.intro h1 (And.intro h2 h3))
              clear h1 h2 h3
              go_quiet (fail)
              go_wp2
              go_roundg k
              case measure => omega
              case rel =>
                obtain ⟨k1, k2, k3, k4, k5, k6⟩ := HK.out
                obtain ⟨_, q2, q3⟩ := HX.out
                exact ⟨_, HF.out _ _ (Best.keep k4 k3 (by rw [k5, k6, lt_no]; exact .inr ⟨q2, by omega⟩))⟩
          · have h2b : (x.due == y.due) = false := by simpa using h2
            have HX := Lib.hid (And.intro h1 h2)
            clear h1 h2
            go_quiet (fail)
            go_wp2
            go_roundg k
            case measure => omega
            case rel =>
              obtain ⟨k1, k2, k3, k4, k5, k6⟩ := HK.out
              obtain ⟨q1, q2⟩ := HX.out
              exact ⟨_, HF.out _ _ (Best.keep k4 k3 (by rw [k5, k6, lt_no]; exact .inl (by omega)))⟩
end Go.Proofs.Ytmepipnledoinaa
