/- A text made into bytes, and bytes into a text: what the world holds. Conditions: none. -/
import Derived.Test.YtefkodglfhonpaaDoorHold
import Derived.Lib.ConvBytes
namespace Go.Proofs.YtefkodglfhonpaaDoor
open Go.RowKit
theorem conv_bytes (w : World) (s : ByteArray) : ∃ (c : Nat) (W : World), (convert 9 46 (.string s)).run Tryd.prog w = .ok (.slice (some ⟨w.heap.size, 0, none⟩) s.size c) W ∧
    (∀ j, j < s.size → W.cell? ⟨w.heap.size, j, none⟩ = some (.int .u8 (s.data.toList.getD j 0).toNat)) ∧ (∀ j, j < s.size → W.frozen? ⟨w.heap.size, j, none⟩ = false) ∧ Below w.heap.size w W ∧ W.heap.size = w.heap.size + 1 := by
  refine ⟨_, _, Lib.run_convert_string_bytes w 9 46 5 s Tryd.underlying9 Tryd.underlying46 Tryd.underlying5, fun j hj => Lib.bytesWorld_cell w 5 s j hj, fun j hj => ?_, ⟨rfl, rfl, rfl, ?_, fun k hk => Lib.bytesWorld_at_old w 5 s k hk⟩, Lib.bytesWorld_size w 5 s⟩
  · unfold World.frozen?
    rw [show (⟨w.heap.size, j, none⟩ : Addr).block = w.heap.size from rfl, Lib.bytesWorld_at_new]
    simp [Lib.bytesCells]
    omega
  · rw [Lib.bytesWorld_size]; omega
/-- bytes that lie in a row, made into a text -/
theorem conv_text (w : World) (g c : Nat) (l : List UInt8) (h : ∀ j, j < l.length → w.cell? ⟨g, j, none⟩ = some (.int .u8 (l.getD j 0).toNat)) :
    (convert 46 9 (.slice (some ⟨g, 0, none⟩) l.length c)).run Tryd.prog w = .ok (.string ⟨l.toArray⟩) w := by
  have e := run_convert_bytes_arg (P := Tryd.prog) w 46 5 Tryd.underlying46 Tryd.underlying5 g 0 l.length c (l.map fun b => (b.toNat : Int)) (by simp) (fun j hj => by
    rw [Nat.zero_add, h j hj]
    simp [List.getD_eq_getElem?_getD, List.getElem?_map, List.getElem?_eq_getElem hj]) 9 Tryd.underlying9
  rw [e]
  unfold strOfNums
  rw [List.map_map, show ((fun n : Int => UInt8.ofNat n.toNat) ∘ fun b : UInt8 => (b.toNat : Int)) = id from funext fun b => by simp, List.map_id]
end Go.Proofs.YtefkodglfhonpaaDoor
