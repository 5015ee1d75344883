/- A queue in memory: its items, their order, and the contract of before. Conditions: none. -/
import Derived.Test.YtmepipnledoinaaProg
import Derived.Test.YtmepipnledoinaaHeap
import Derived.Test.YtmepipnledoinaaKit
import Derived.Lib.Hide
import Derived.KernelRfl
import Derived.WalkKit
import Derived.WalkSpells
namespace Go.Proofs.Ytmepipnledoinaa
open Go.RowKit
/-- an item -/
structure It where
  due : Int
  stamp : Int
  hi : Int
  lo : Int
instance : Inhabited It := ⟨⟨0, 0, 0, 0⟩⟩
def It.cells (x : It) : List Value := [.int .i64 x.due, .int .i64 x.stamp, .int .u64 x.hi, .int .u64 x.lo]
def flat (h : List It) : List Value := h.flatMap It.cells
theorem flat_cons (x : It) (h : List It) : flat (x :: h) = .int .i64 x.due :: .int .i64 x.stamp :: .int .u64 x.hi :: .int .u64 x.lo :: flat h := rfl
theorem flat_append (a b : List It) : flat (a ++ b) = flat a ++ flat b := by simp [flat]
theorem flat_length : ∀ h : List It, (flat h).length = h.length * 4
  | [] => rfl
  | x :: h => by rw [flat_cons]; simp only [List.length_cons, flat_length h]; omega
theorem flat_take : ∀ (n : Nat) (h : List It), (flat h).take (n * 4) = flat (h.take n)
  | 0, _ => by simp [flat]
  | n + 1, [] => by simp [flat]
  | n + 1, x :: h => by
    rw [flat_cons, show (n + 1) * 4 = n * 4 + 1 + 1 + 1 + 1 by omega]
    simp only [List.take_succ_cons]
    rw [flat_take n h, flat_cons]
theorem flat_at : ∀ (h : List It) (i : Nat), i < h.length → (flat h)[i * 4]? = some (.int .i64 (Heap.g h i).due) ∧ (flat h)[i * 4 + 1]? = some (.int .i64 (Heap.g h i).stamp) ∧ (flat h)[i * 4 + 2]? = some (.int .u64 (Heap.g h i).hi) ∧ (flat h)[i * 4 + 3]? = some (.int .u64 (Heap.g h i).lo)
  | [], _, hi => by simp at hi
  | x :: h, 0, _ => ⟨rfl, rfl, rfl, rfl⟩
  | x :: h, i + 1, hi => by
    have ih := flat_at h i (by simpa using hi)
    rw [flat_cons, show (i + 1) * 4 = i * 4 + 1 + 1 + 1 + 1 by omega]
    have e : Heap.g (x :: h) (i + 1) = Heap.g h i := rfl
    rw [e]
    simpa using ih
theorem flat_set : ∀ (h : List It) (i : Nat) (x : It), (((( flat h).set (i * 4) (.int .i64 x.due)).set (i * 4 + 1) (.int .i64 x.stamp)).set (i * 4 + 2) (.int .u64 x.hi)).set (i * 4 + 3) (.int .u64 x.lo) = flat (h.set i x)
  | [], _, _ => by simp [flat]
  | y :: h, 0, x => rfl
  | y :: h, i + 1, x => by
    have ih := flat_set h i x
    rw [List.set_cons_succ, flat_cons, flat_cons, ← ih, show (i + 1) * 4 = i * 4 + 1 + 1 + 1 + 1 by omega]
    simp only [List.set_cons_succ]
/-- ahead: by the times, then by the stamps -/
def lt (a b : It) : Bool := decide (a.due < b.due) || (a.due == b.due && decide (a.stamp < b.stamp))
theorem lt_iff (a b : It) : lt a b = true ↔ a.due < b.due ∨ a.due = b.due ∧ a.stamp < b.stamp := by unfold lt; simp
theorem lt_no (a b : It) : lt a b = false ↔ b.due < a.due ∨ a.due = b.due ∧ b.stamp ≤ a.stamp := by
  rw [← Bool.not_eq_true, lt_iff]; omega
theorem lt_ord : Heap.Ord lt := ⟨fun a b c h1 h2 => by rw [lt_no] at *; omega, fun a b h => by rw [lt_iff] at h; rw [lt_no]; omega⟩
theorem grown_set {w w' : World} {r : Nat} (h : w.grownBy w' (some r)) (i : Nat) (u : Value) : w.grownBy (w'.setCell ⟨r, i, none⟩ u) (some r) :=
  ⟨h.os, h.tape, h.output, by simpa [World.setCell] using h.size, fun k hk hne => (Below.heap_setCell w' ⟨r, i, none⟩ u k (fun e => hne (by rw [e]))).trans (h.block k hk hne)⟩
theorem grown_trans {a b c : World} {r : Option Nat} (h : a.grownBy b r) (k : b.grownBy c r) : a.grownBy c r :=
  ⟨k.os.trans h.os, k.tape.trans h.tape, k.output.trans h.output, Nat.le_trans h.size k.size, fun i hi hne => (k.block i (Nat.lt_of_lt_of_le hi h.size) hne).trans (h.block i hi hne)⟩
theorem grown_of_below {a b : World} {r : Option Nat} (h : Below a.heap.size a b) : a.grownBy b r := ⟨h.os, h.tape, h.output, h.size, fun i hi _ => h.block i hi⟩
theorem grown_drew {a b : World} {r : Option Nat} (h : a.grownBy b r) : a.grownBy b.drew r := ⟨h.os, h.tape, h.output, h.size, h.block⟩
/-- a queue whose items lie in row g -/
structure QRow (w : World) (B q g cap : Nat) (h : List It) : Prop where
  hq : q < B
  blk : Blk w q 27 #[.slice (some ⟨g, 0, none⟩) h.length cap]
  own : w.ownsRow B 34 4 (.slice (some ⟨g, 0, none⟩) h.length cap) h.length (flat h)
section
variable {w w' : World} {B q g cap : Nat} {h : List It}
theorem QRow.base (r : QRow w B q g cap h) : B ≤ g ∧ g < w.heap.size := r.own.lt g rfl
theorem QRow.drew (r : QRow w B q g cap h) : QRow w.drew B q g cap h := ⟨r.hq, r.blk.drew, r.own.drew⟩
theorem QRow.below (r : QRow w B q g cap h) (hb : Below w.heap.size w w') : QRow w' B q g cap h := ⟨r.hq, r.blk.below hb r.blk.lt, own_below r.own hb⟩
theorem QRow.cell (r : QRow w B q g cap h) : w.cell? ⟨q, 0, none⟩ = some (.slice (some ⟨g, 0, none⟩) h.length cap) := r.blk.cell 0
theorem QRow.item (r : QRow w B q g cap h) {i : Nat} (hi : i < h.length) : w.cell? ⟨g, i * 4, none⟩ = some (.int .i64 (Heap.g h i).due) ∧ w.cell? ⟨g, i * 4 + 1, none⟩ = some (.int .i64 (Heap.g h i).stamp) ∧ w.cell? ⟨g, i * 4 + 2, none⟩ = some (.int .u64 (Heap.g h i).hi) ∧ w.cell? ⟨g, i * 4 + 3, none⟩ = some (.int .u64 (Heap.g h i).lo) := by
  obtain ⟨f0, f1, f2, f3⟩ := flat_at h i hi
  exact ⟨(r.own.cellAt _ (by omega)).trans f0, (r.own.cellAt _ (by omega)).trans f1, (r.own.cellAt _ (by omega)).trans f2, (r.own.cellAt _ (by omega)).trans f3⟩
theorem QRow.free (r : QRow w B q g cap h) (j : Nat) : w.frozen? ⟨g, j, none⟩ = false := r.own.frozenAt j
theorem QRow.set (r : QRow w B q g cap h) (i : Nat) (x : It) : QRow ((((w.setCell ⟨g, i * 4, none⟩ (.int .i64 x.due)).setCell ⟨g, i * 4 + 1, none⟩ (.int .i64 x.stamp)).setCell ⟨g, i * 4 + 2, none⟩ (.int .u64 x.hi)).setCell ⟨g, i * 4 + 3, none⟩ (.int .u64 x.lo)) B q g cap (h.set i x) := by
  have hb := r.base
  have hq := r.hq
  refine ⟨r.hq, ?_, ?_⟩
  · rw [List.length_set]
    exact (((r.blk.far (p := ⟨g, i * 4, none⟩) (by simp; omega) _).far (p := ⟨g, i * 4 + 1, none⟩) (by simp; omega) _).far (p := ⟨g, i * 4 + 2, none⟩) (by simp; omega) _).far (p := ⟨g, i * 4 + 3, none⟩) (by simp; omega) _
  · rw [List.length_set, ← flat_set]
    exact ((((r.own.stored (i * 4) _).1.stored (i * 4 + 1) _).1.stored (i * 4 + 2) _).1.stored (i * 4 + 3) _).1
end
theorem ret_bool {a b : Bool} (h : a = b) : Ending.returned (.bool a) = .returned (.bool b) := by rw [h]
abbrev iv (a b c d : Int) : Value := .agg #[.int .i64 a, .int .i64 b, .int .u64 c, .int .u64 d]
theorem before_w (a b c d a' b' c' d' : Int) (w : World) : Calls Try.prog 18 #[iv a b c d, iv a' b' c' d'] w fun e w' => e = .returned (.bool (lt ⟨a, b, c, d⟩ ⟨a', b', c', d'⟩)) ∧ Below w.heap.size w w' := by
  unfold lt
  by_cases h1 : a < a'
  · go_enter Try.func18, Try.ntmps18
    go_wp2
    go_ret
    exact ⟨ret_bool (by simp [h1]), ((Below.refl _ _).alloc (Nat.le_refl _) _).alloc (by simp) _⟩
  · by_cases h2 : a = a'
    · subst h2
      go_enter Try.func18, Try.ntmps18
      go_wp2
      go_ret
      exact ⟨ret_bool (by simp), ((Below.refl _ _).alloc (Nat.le_refl _) _).alloc (by simp) _⟩
    · have h3 : (a == a') = false := by simpa using h2
      go_enter Try.func18, Try.ntmps18
      go_wp2
      go_ret
      exact ⟨ret_bool (by simp [h1]), ((Below.refl _ _).alloc (Nat.le_refl _) _).alloc (by simp) _⟩
theorem before_any (x y : It) (w : World) : Calls Try.prog 18 #[iv x.due x.stamp x.hi x.lo, iv y.due y.stamp y.hi y.lo] w fun e w' => e = .returned (.bool (lt x y)) ∧ Below w.heap.size w w' := before_w x.due x.stamp x.hi x.lo y.due y.stamp y.hi y.lo w
theorem before_is (x y : It) (b : Bool) (h : lt x y = b) (w : World) : Calls Try.prog 18 #[iv x.due x.stamp x.hi x.lo, iv y.due y.stamp y.hi y.lo] w fun e w' => e = .returned (.bool b) ∧ Below w.heap.size w w' := h ▸ before_any x y w
end Go.Proofs.Ytmepipnledoinaa
