/- The reference's Without, Find. Conditions: a list of few items. -/
import Derived.Test.YtmepipnledoinaaDrops
import Derived.Deep.AppendLies
import Derived.Deep.RegionLaw
namespace Go.Proofs.Ytmepipnledoinaa
open Go.RowKit Go.BigFrame
theorem Try.info48 : (Try.prog.info? 48).map (fun i => (i.zero, i.size, i.bytes)) = some (some (.agg #[.int .i64 0, .int .i64 0, .int .u64 0, .int .u64 0]), 4, 32) := by kernel_rfl
set_option maxRecDepth 1000000 in
set_option maxHeartbeats 4000000 in
theorem without_w (B g cap i n : Nat) (l : List It) (w : World) (ho : w.ownsRow B 48 4 (.slice (some ⟨g, 0, none⟩) n cap) n (flat l)) (hi : i < n) (hn : n ≤ 300) (hc : n ≤ cap) :
    Calls Try.prog 13 #[.slice (some ⟨g, 0, none⟩) n cap, .int .i64 i] w fun e w' => ∃ v', e = .returned v' ∧ w'.ownsRow w.heap.size 48 4 v' (n - 1) (flat (l.eraseIdx i)) ∧ Below w.heap.size w w' := by
  obtain ⟨i0, hi0, hz0, hz1, hz2⟩ := info_parts Try.info48
  have i1 : (0 : Int) ≤ (i : Int) := by omega
  have i2 : (i : Int) < (n : Int) := by omega
  have i3 : (i : Int) ≤ (cap : Int) := by omega
  have i4 : (i : Int) + 1 ≤ (n : Int) := by omega
  have i5 : (n : Int) ≤ (cap : Int) := by omega
  have i6 : (n : Int) ≤ 300 := by omega
  have i7 : (i : Int) ≤ (n : Int) := by omega
  have i8 : (0 : Int) ≤ (i : Int) + 1 := by omega
  have hwr : IntKind.i64.wrap ((i : Int) + 1) = ((i + 1 : Nat) : Int) := IntWalk.i64_in _ (by omega)
  have hE : (w.alloc (.cells #[] 48)).drew.ownsRow w.heap.size 48 4 (.slice (some ⟨w.heap.size, 0, none⟩) 0 0) 0 [] := ⟨rfl, .inr ⟨w.heap.size, 0, #[], rfl, Nat.le_refl _, heap_alloc_new w _, Nat.le_refl _, by unfold maxLen; omega, by simp, by simp⟩⟩
  have hl : l.length = n := by have := ho.1; rw [flat_length] at this; omega
  have hr0 : Reads w w.heap.size 4 (some ⟨g, 0, none⟩) n (flat l) := Reads.of_own ho
  have hr1 : Reads (w.alloc (.cells #[] 48)).drew w.heap.size 4 (some ⟨g, 0, none⟩) i (flat (l.take i)) := by
    have h2 : Reads w w.heap.size 4 (some ⟨g, 0, none⟩) i (flat (l.take i)) := by
      rw [← flat_take]
      exact ⟨by rw [List.length_take]; have := hr0.1; omega, fun h0 => by
        obtain ⟨ad, e, hb, hc⟩ := hr0.2 (by omega)
        refine ⟨ad, e, hb, fun j u hj => hc j u ?_⟩
        rw [List.getElem?_take] at hj
        split at hj
        · exact hj
        · cases hj⟩
    exact (h2.alloc (Nat.le_refl _) _).drew
  have hr2 : Reads w w.heap.size 4 (if cap = i + 1 then some ⟨g, 0, none⟩ else some ⟨g, (i + 1) * 4, none⟩) (n - (i + 1)) (flat (l.drop (i + 1))) := by
    have h3 := hr0.cut (k := i + 1) (cap := cap) (by omega) hc
    have e1 : (flat l).drop ((i + 1) * 4) = flat (l.drop (i + 1)) := by
      have h4 := flat_append (l.take (i + 1)) (l.drop (i + 1))
      rw [List.take_append_drop] at h4
      rw [h4, List.drop_append, List.drop_of_length_le (by rw [flat_length, List.length_take]; omega)]
      have : (i + 1) * 4 - (flat (l.take (i + 1))).length = 0 := by rw [flat_length, List.length_take]; omega
      rw [this]
      simp
    rw [e1] at h3
    simpa [Addr.add] using h3
  have one : ∀ l : List It, ∀ u ∈ flat l, u.oneCell' = true := by
    intro l u hu
    obtain ⟨x, _, hx⟩ := List.mem_flatMap.1 hu
    simp [It.cells] at hx
    rcases hx with rfl | rfl | rfl | rfl <;> rfl
  have HO := Lib.hid ho
  have HR := Lib.hid hr2
  clear ho hr0 hr2
  go_enter Try.func13, Try.ntmps13
  go_wp2_with fail
  go_region_law (first
    | (refine step_append_any _ (by rfl) _ _ _ (by rfl) w.heap.size 48 i0 _ 4 32 Try.underlying44 hi0 hz0 hz1 hz2 (by rfl) (by omega) _ 0 [] (by rfl) hE w.heap.size _ i cap (flat (l.take i)) (by rfl) hr1 (one _) (by unfold maxLen; omega) (by omega) (by simp) ?_; intro v1 w1 hown1 hgrow1 hat1; have hr3 := ((HR.out.alloc (Nat.le_refl _) (.cells #[] 48)).drew).grown hgrow1 (by simp) (by intro k hk; simp [Value.ownBlock] at hk; omega); have hs1 : w.heap.size ≤ w1.heap.size := Nat.le_trans (by simp) hgrow1.size)
    | (refine step_append_any _ (by rfl) _ _ _ (by rfl) w.heap.size 48 i0 _ 4 32 Try.underlying44 hi0 hz0 hz1 hz2 (by rfl) (by omega) _ (0 + i) _ (by rfl) hown1 w.heap.size _ (n - (i + 1)) (cap - (i + 1)) (flat (l.drop (i + 1))) (by rfl) hr3 (one _) (by unfold maxLen; omega) (by omega) hs1 ?_; intro v2 w2 hown2 hgrow2 hat2))
  all_goals
    have hb2 : Below w.heap.size w w2 := ((((Below.refl w.heap.size w).alloc (Nat.le_refl _) (.cells #[] 48)).drew).grown hgrow1 (by simp) (by intro k hk; simp [Value.ownBlock] at hk; omega)).grown hgrow2 hs1 (fun k hk => (hown1.lt k hk).1)
    have hE2 : 0 + i + (n - (i + 1)) = n - 1 := by omega
    rw [hE2, List.nil_append, ← flat_append, ← List.eraseIdx_eq_take_drop_succ] at hown2
    have HF := Lib.hid (And.intro hown2 hb2)
    clear hown1 hgrow1 hgrow2 hat1 hat2 hr3 hs1 hown2 hb2
    go_wp2
    all_goals
      go_ret
      exact ⟨_, rfl, HF.out.1, HF.out.2⟩
theorem own_form {w : World} {B t s n : Nat} {v : Value} {xs : List Value} (h : w.ownsRow B t s v n xs) : ∃ A cap, v = .slice A n cap := by
  rcases h.2 with ⟨rfl, e0⟩ | ⟨g, cap, cur, rfl, _⟩
  · exact ⟨none, 0, by rw [e0]⟩
  · exact ⟨_, _, rfl⟩
/-- the reference's list lies there -/
structure LRow (w : World) (B g cap : Nat) (l : List It) : Prop where
  own : w.ownsRow B 48 4 (.slice (some ⟨g, 0, none⟩) l.length cap) l.length (flat l)
section
variable {w w' : World} {B g cap : Nat} {l : List It}
theorem LRow.item (r : LRow w B g cap l) {i : Nat} (hi : i < l.length) : w.cell? ⟨g, i * 4, none⟩ = some (.int .i64 (Heap.g l i).due) ∧ w.cell? ⟨g, i * 4 + 1, none⟩ = some (.int .i64 (Heap.g l i).stamp) ∧ w.cell? ⟨g, i * 4 + 2, none⟩ = some (.int .u64 (Heap.g l i).hi) ∧ w.cell? ⟨g, i * 4 + 3, none⟩ = some (.int .u64 (Heap.g l i).lo) := by
  obtain ⟨f0, f1, f2, f3⟩ := flat_at l i hi
  exact ⟨(r.own.cellAt _ (by omega)).trans f0, (r.own.cellAt _ (by omega)).trans f1, (r.own.cellAt _ (by omega)).trans f2, (r.own.cellAt _ (by omega)).trans f3⟩
theorem LRow.below (r : LRow w B g cap l) (hb : Below w.heap.size w w') : LRow w' B g cap l := ⟨own_below r.own hb⟩
end
theorem find_empty (A : Option Addr) (cap : Nat) (s : Int) (w : World) : Calls Try.prog 12 #[.slice A 0 cap, .int .i64 s] w fun e w' => e = .returned (.int .i64 (-1)) ∧ Below w.heap.size w w' := by
  go_enter Try.func12, Try.ntmps12
  go_wp2_with fail
  go_loopg [9] 0 (fun k v wr => v = .int .i64 0 ∧ wr = w)
  case atStart => exact ⟨rfl, rfl⟩
  case round =>
    obtain ⟨rfl, rfl⟩ := hrel
    go_wp2
    go_ret
    exact ⟨rfl, Below.refl _ _⟩
structure FindInv (w : World) (B g cap : Nat) (l : List It) (v : Value) (k : Nat) (wr : World) : Prop where
  v : v = .int .i64 ((l.length - k : Nat) : Int)
  le : k ≤ l.length
  row : LRow wr B g cap l
  bel : Below w.heap.size w wr
set_option maxRecDepth 100000 in
set_option maxHeartbeats 4000000 in
theorem find_no (B g cap : Nat) (l : List It) (s : Int) (w : World) (hr : LRow w B g cap l) (hl : l.length ≤ 1000) (hs : ∀ j, j < l.length → (Heap.g l j).stamp ≠ s) :
    Calls Try.prog 12 #[.slice (some ⟨g, 0, none⟩) l.length cap, .int .i64 s] w fun e w' => e = .returned (.int .i64 (-1)) ∧ Below w.heap.size w w' := by
  have HH := Lib.hid (And.intro hr hs)
  clear hr hs
  go_enter Try.func12, Try.ntmps12
  go_wp2_with fail
  go_loopg [9] l.length (fun k v wr => FindInv w B g cap l v k wr)
  case atStart => exact ⟨by rw [Nat.sub_self]; rfl, Nat.le_refl _, HH.out.1, Below.refl _ _⟩
  case round =>
    obtain ⟨rfl, hle, hrow, hbel⟩ := hrel
    cases gk with
    | zero =>
      have HB := Lib.hid hbel
      clear hrow hbel hle
      rw [Nat.sub_zero]
      go_wp2
      go_ret
      exact ⟨rfl, HB.out⟩
    | succ k =>
      obtain ⟨i, hi⟩ : ∃ i : Nat, l.length - (k + 1) = i := ⟨_, rfl⟩
      rw [hi]
      have hil : i < l.length := by omega
      obtain ⟨x, hx⟩ : ∃ x, Heap.g l i = x := ⟨_, rfl⟩
      obtain ⟨a0, a1, a2, a3⟩ := hrow.item hil
      rw [hx] at a0 a1 a2 a3
      have hne : (x.stamp == s) = false := by have := HH.out.2 i hil; rw [hx] at this; simpa using this
      have i2 : (i : Int) < (l.length : Int) := by omega
      have HK := Lib.hid (And.intro hi (And.intro hle (And.intro hrow hbel)))
      clear hi hle hrow hbel hx
      go_wp2
      go_roundg k
      case measure => omega
      case rel =>
        obtain ⟨k1, k2, k3, k4⟩ := HK.out
        have hk : l.length - k = i + 1 := by omega
        exact ⟨by rw [hk]; go_num, by omega, k3.below ((Below.refl _ _).alloc (Nat.le_refl _) _), k4.alloc k4.size _⟩
set_option maxRecDepth 100000 in
set_option maxHeartbeats 4000000 in
theorem find_yes (B g cap : Nat) (l : List It) (s : Int) (m : Nat) (w : World) (hr : LRow w B g cap l) (hl : l.length ≤ 1000) (hm : m < l.length) (hms : (Heap.g l m).stamp = s) (hs : ∀ j, j < m → (Heap.g l j).stamp ≠ s) :
    Calls Try.prog 12 #[.slice (some ⟨g, 0, none⟩) l.length cap, .int .i64 s] w fun e w' => e = .returned (.int .i64 (m : Int)) ∧ Below w.heap.size w w' := by
  have HH := Lib.hid (And.intro hr (And.intro hms hs))
  clear hr hs hms
  go_enter Try.func12, Try.ntmps12
  go_wp2_with fail
  go_loopg [9] l.length (fun k v wr => FindInv w B g cap l v k wr ∧ l.length - k ≤ m)
  case atStart => exact ⟨⟨by rw [Nat.sub_self]; rfl, Nat.le_refl _, HH.out.1, Below.refl _ _⟩, by omega⟩
  case round =>
    obtain ⟨⟨rfl, hle, hrow, hbel⟩, him⟩ := hrel
    obtain ⟨i, hi⟩ : ∃ i : Nat, l.length - gk = i := ⟨_, rfl⟩
    rw [hi] at him ⊢
    have hil : i < l.length := by omega
    obtain ⟨x, hx⟩ : ∃ x, Heap.g l i = x := ⟨_, rfl⟩
    obtain ⟨a0, a1, a2, a3⟩ := hrow.item hil
    rw [hx] at a0 a1 a2 a3
    have i2 : (i : Int) < (l.length : Int) := by omega
    have HK := Lib.hid (And.intro hi (And.intro hle (And.intro hrow (And.intro hbel (And.intro hx him)))))
    clear hi hle hrow hbel hx him
    by_cases hie : i = m
    · subst hie
      have heq : (x.stamp == s) = true := by have := HH.out.2.1; rw [HK.out.2.2.2.2.1] at this; simpa using this
      go_wp2
      go_ret
      exact ⟨rfl, HK.out.2.2.2.1.alloc HK.out.2.2.2.1.size _⟩
    · have hne : (x.stamp == s) = false := by
        have := HH.out.2.2 i (by have := HK.out.2.2.2.2.2; omega)
        rw [HK.out.2.2.2.2.1] at this
        simpa using this
      go_wp2
      go_roundg (gk - 1)
      case measure => have := HK.out.1; omega
      case rel =>
        obtain ⟨k1, k2, k3, k4, k5, k6⟩ := HK.out
        have hk : l.length - (gk - 1) = i + 1 := by omega
        exact ⟨⟨by rw [hk]; go_num, by omega, k3.below ((Below.refl _ _).alloc (Nat.le_refl _) _), k4.alloc k4.size _⟩, by omega⟩
end Go.Proofs.Ytmepipnledoinaa
