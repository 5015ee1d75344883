/- The contract of the reference's fill (layer 26): noughts behind a text. Conditions: none. -/
import Derived.Test.YtjjlfkbgieloeaaDoorParse
namespace Go.Proofs.YtjjlfkbgieloeaaDoor
open Go.RowKit Go.PlainAid
def padS (s : ByteArray) (j : Nat) : ByteArray := ⟨(s.data.toList ++ List.replicate j 0).toArray⟩
theorem padS_zero (s : ByteArray) : padS s 0 = s := by
  apply ByteArray.ext
  simp [padS]
theorem padS_next (s : ByteArray) (j : Nat) : padS s j ++ ⟨#[0]⟩ = padS s (j + 1) := by
  apply ByteArray.ext
  simp [padS, List.replicate_succ']
theorem padS_size (s : ByteArray) (j : Nat) : (padS s j).size = s.size + j := by
  show (s.data.toList ++ List.replicate j 0).toArray.size = _
  have : s.data.toList.length = s.size := rfl
  rw [List.size_toArray, List.length_append, List.length_replicate, this]
structure FillInv (w : World) (s : ByteArray) (n : Nat) (v : Value) (k : Nat) (wr : World) : Prop where
  v : v = .string (padS s (n - s.size - k))
  le : k ≤ n - s.size
  same : wr = w
set_option maxRecDepth 100000 in
theorem fill_same (s : ByteArray) (n : Nat) (w : World) (hn : n < 100) :
    Calls Tryd.prog 48 #[.string s, .int .i64 n] w fun e w' => e = .returned (.string (padS s (n - s.size))) ∧ w = w' := by
  go_enter Tryd.func48, Tryd.ntmps48
  go_wp2_with fail
  go_loopg [0] (n - s.size) (fun k v wr => FillInv w s n v k wr)
  case atStart => exact ⟨by rw [Nat.sub_self, padS_zero], Nat.le_refl _, rfl⟩
  case round =>
    obtain ⟨rfl, hle, rfl⟩ := hrel
    cases gk with
    | zero =>
      rw [Nat.sub_zero]
      have hz := padS_size s (n - s.size)
      have h1 : ¬ (padS s (n - s.size)).size < n := by omega
      clear hz hle
      go_wp2
      go_ret
      exact ⟨rfl, rfl⟩
    | succ k =>
      obtain ⟨j, hj⟩ : ∃ j : Nat, n - s.size - (k + 1) = j := ⟨_, rfl⟩
      rw [hj]
      have hz := padS_size s j
      have h1 : (padS s j).size < n := by omega
      have hz2 : (⟨#[0]⟩ : ByteArray).size = 1 := rfl
      have HK := Lib.hid (And.intro hj hle)
      clear hj hle hz
      go_wp2
      go_roundg k
      case measure => omega
      case rel =>
        have hk : n - s.size - k = j + 1 := by have := HK.out; omega
        exact ⟨by rw [hk, padS_next], by have := HK.out; omega, rfl⟩
theorem fill_any (s : ByteArray) (n : Nat) (w : World) (hn : n < 100) :
    Calls Tryd.prog 48 #[.string s, .int .i64 n] w fun e w' => e = .returned (.string (padS s (n - s.size))) ∧ Below w.heap.size w w' :=
  (fill_same s n w hn).mono fun _ _ ⟨he, hw⟩ => ⟨he, hw ▸ Below.refl _ _⟩
end Go.Proofs.YtjjlfkbgieloeaaDoor
