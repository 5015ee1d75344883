/- The contract of Drop. Conditions: a heap of few items. -/
import Derived.Test.YtmepipnledoinaaQOps
namespace Go.Proofs.Ytmepipnledoinaa
open Go.RowKit Go.BigFrame
theorem drop_nil (s : Int) (w : World) : Calls Try.prog 11 #[.pointer none, .int .i64 s] w fun e w' => e = .returned (.bool false) ∧ w = w' := by
  go_enter Try.func11, Try.ntmps11
  go_wp2
  go_ret
  exact ⟨rfl, rfl⟩
theorem drop_empty (B q : Nat) (b : Option Nat) (s : Int) (w : World) (ha : QAt w B q b []) : Calls Try.prog 11 #[.pointer (some ⟨q, 0, none⟩), .int .i64 s] w fun e w' => e = .returned (.bool false) ∧ Below w.heap.size w w' := by
  obtain ⟨A, cap, c0⟩ := ha.form
  have c1 : w.cell? ⟨q, 0, none⟩ = some (.slice A 0 cap) := c0
  clear ha c0
  go_enter Try.func11, Try.ntmps11
  go_wp2_with fail
  go_loopg [14] 0 (fun k v wr => v = .int .i64 0 ∧ wr = w)
  case atStart => exact ⟨rfl, rfl⟩
  case round =>
    obtain ⟨rfl, rfl⟩ := hrel
    go_wp2
    go_ret
    exact ⟨rfl, Below.refl _ _⟩
structure DropInv (w : World) (B q g cap : Nat) (h : List It) (s : Int) (v : Value) (k : Nat) (wr : World) : Prop where
  v : v = .int .i64 ((h.length - k : Nat) : Int)
  le : k ≤ h.length
  row : QRow wr B q g cap h
  bel : Below w.heap.size w wr
  none : ∀ j, j < h.length - k → (Heap.g h j).stamp ≠ s
set_option maxRecDepth 100000 in
set_option maxHeartbeats 4000000 in
theorem drop_no (B q : Nat) (b : Option Nat) (h : List It) (s : Int) (w : World) (ha : QAt w B q b h) (h0 : 0 < h.length) (hl : h.length ≤ 1000) (hs : ∀ j, j < h.length → (Heap.g h j).stamp ≠ s) : Calls Try.prog 11 #[.pointer (some ⟨q, 0, none⟩), .int .i64 s] w fun e w' => e = .returned (.bool false) ∧ Below w.heap.size w w' := by
  obtain ⟨g, cap, hbg, hr⟩ := ha.qrow h0
  have c0 := hr.cell
  have HH := Lib.hid (And.intro hr hs)
  clear ha hbg hr hs
  go_enter Try.func11, Try.ntmps11
  go_wp2_with fail
  go_loopg [14] h.length (fun k v wr => DropInv w B q g cap h s v k wr)
  case atStart => exact ⟨by rw [Nat.sub_self]; rfl, Nat.le_refl _, HH.out.1, Below.refl _ _, fun j hj => absurd hj (by omega)⟩
  case round =>
    obtain ⟨rfl, hle, hrow, hbel, hnone⟩ := hrel
    cases gk with
    | zero =>
      have HB := Lib.hid hbel
      clear hrow hbel hnone hle
      rw [Nat.sub_zero]
      go_wp2
      go_ret
      exact ⟨rfl, HB.out⟩
    | succ k =>
      obtain ⟨i, hi⟩ : ∃ i : Nat, h.length - (k + 1) = i := ⟨_, rfl⟩
      rw [hi] at hnone ⊢
      have hil : i < h.length := by omega
      obtain ⟨x, hx⟩ : ∃ x, Heap.g h i = x := ⟨_, rfl⟩
      obtain ⟨a0, a1, a2, a3⟩ := hrow.item hil
      rw [hx] at a0 a1 a2 a3
      have hne : (x.stamp == s) = false := by have := HH.out.2 i hil; rw [hx] at this; simpa using this
      have i2 : (i : Int) < (h.length : Int) := by omega
      have HK := Lib.hid (And.intro hi (And.intro hle (And.intro hrow (And.intro hbel hx))))
      clear hi hle hrow hbel hx hnone
      go_wp2
      go_roundg k
      case measure => omega
      case rel =>
        obtain ⟨k1, k2, k3, k4, k5⟩ := HK.out
        have hk : h.length - k = i + 1 := by omega
        exact ⟨by rw [hk]; go_num, by omega, k3.below ((Below.refl _ _).alloc (Nat.le_refl _) _), k4.alloc k4.size _, fun j hj => HH.out.2 j (by omega)⟩
set_option maxRecDepth 100000 in
set_option maxHeartbeats 4000000 in
theorem drop_yes (B q : Nat) (b : Option Nat) (h : List It) (s : Int) (m : Nat) (w : World) (ha : QAt w B q b h) (ho : Heap.Ok lt h) (hl : h.length ≤ 1000) (hm : m < h.length) (hs : (Heap.g h m).stamp = s) (hb : ∀ j, j < m → (Heap.g h j).stamp ≠ s) :
    Calls Try.prog 11 #[.pointer (some ⟨q, 0, none⟩), .int .i64 s] w fun e w' => e = .returned (.bool true) ∧ ∃ h', (Heap.g h m :: h').Perm h ∧ Took w w' B q b h' := by
  obtain ⟨g, cap, hbg, hr⟩ := ha.qrow (by omega)
  have c0 := hr.cell
  have HH := Lib.hid (And.intro hr (And.intro hb (And.intro hs (And.intro hbg (And.intro ho ha.hB)))))
  clear ha hbg hr hs hb ho
  go_enter Try.func11, Try.ntmps11
  go_wp2_with fail
  go_loopg [14] h.length (fun k v wr => DropInv w B q g cap h s v k wr ∧ h.length - k ≤ m)
  case atStart => exact ⟨⟨by rw [Nat.sub_self]; rfl, Nat.le_refl _, HH.out.1, Below.refl _ _, fun j hj => absurd hj (by omega)⟩, by omega⟩
  case round =>
    obtain ⟨⟨rfl, hle, hrow, hbel, hnone⟩, him⟩ := hrel
    obtain ⟨i, hi⟩ : ∃ i : Nat, h.length - gk = i := ⟨_, rfl⟩
    rw [hi] at hnone him ⊢
    have hil : i < h.length := by omega
    obtain ⟨x, hx⟩ : ∃ x, Heap.g h i = x := ⟨_, rfl⟩
    obtain ⟨a0, a1, a2, a3⟩ := hrow.item hil
    rw [hx] at a0 a1 a2 a3
    have i2 : (i : Int) < (h.length : Int) := by omega
    have HK := Lib.hid (And.intro hi (And.intro hle (And.intro hrow (And.intro hbel (And.intro hx him)))))
    clear hi hle hrow hbel hx hnone him
    by_cases hie : i = m
    · subst hie
      have heq : (x.stamp == s) = true := by have := HH.out.2.2.1; rw [HK.out.2.2.2.2.1] at this; simpa using this
      have hr2 := HK.out.2.2.1.below ((Below.refl _ wr).alloc (Nat.le_refl _) (.cells #[.int .i64 x.due, .int .i64 x.stamp, .int .u64 x.hi, .int .u64 x.lo] 34))
      have HR := Lib.hid hr2
      clear hr2
      go_wp2_with fail
      refine (take_any B q g cap i h x _ HR.out HH.out.2.2.2.2.1 hil hl HK.out.2.2.2.2.1).mono ?_
      rintro e w1 ⟨rfl, h1, hr1, hp1, ho1, hk1⟩
      have HT := Lib.hid (And.intro hr1 hk1)
      clear hr1 hk1
      go_wp2
      go_ret
      obtain ⟨k1, k2, k3, k4, k5, k6⟩ := HK.out
      obtain ⟨r1, r2, r3, r4, r5, r6⟩ := HH.out
      have hK : Kp w w1 q b := by
        rw [r4]
        exact (Kp.of_below (k4.alloc k4.size _)).trans HT.out.2
      refine ⟨rfl, h1, by rw [k5]; exact hp1, ?_, ho1, hK⟩
      rw [r4]
      exact HT.out.1.at_ (Nat.le_trans r6 hK.size)
    · have hne : (x.stamp == s) = false := by
        have := HH.out.2.1 i (by have := HK.out.2.2.2.2.2; omega)
        rw [HK.out.2.2.2.2.1] at this
        simpa using this
      go_wp2
      go_roundg (gk - 1)
      case measure => have := HK.out.1; omega
      case rel =>
        obtain ⟨k1, k2, k3, k4, k5, k6⟩ := HK.out
        have hk : h.length - (gk - 1) = i + 1 := by omega
        exact ⟨⟨by rw [hk]; go_num, by omega, k3.below ((Below.refl _ _).alloc (Nat.le_refl _) _), k4.alloc k4.size _, fun j hj => by
          by_cases hji : j = i
          · subst hji; exact HH.out.2.1 j (by omega)
          · exact HH.out.2.1 j (by omega)⟩, by omega⟩
end Go.Proofs.Ytmepipnledoinaa
