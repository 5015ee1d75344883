/- The contracts of tape.Writer's Raw and String. Conditions: few bytes. -/
import Derived.Test.YtefkodglfhonpaaDoorTapeW
namespace Go.Proofs.YtefkodglfhonpaaDoor
open Go.RowKit Go.PlainAid
theorem strCells_is (s : ByteArray) : Lib.strCells s = Lib.byteCells s.data.toList := rfl
set_option maxRecDepth 100000 in
set_option maxHeartbeats 4000000 in
theorem wraw_any (s : ByteArray) (l : List UInt8) (B q : Nat) (w : World) (hl0 : 0 < l.length) (hl : l.length ≤ 1000) (hs : s.size ≤ 1000) (h : WAt w B q l) :
    Calls Tryd.prog 22 #[.pointer (some ⟨q, 0, none⟩), .string s] w fun e w' => e = .returned (.tuple #[]) ∧ WAt w' B q (l ++ s.data.toList) ∧ Below q w w' := by
  obtain ⟨i0, hi0, hz0, hz1, hz2⟩ := info_parts Tryd.info5
  obtain ⟨hq, hB, v, hbv, hown⟩ := h
  have hn1 : l.length + s.size ≤ maxLen := by unfold maxLen; omega
  have hn2 : l.length + s.size ≤ 140737488355328 := by omega
  have c0 : w.cell? ⟨q, 0, none⟩ = some v := hbv.cell 0
  have lq := hbv.lt
  have hne : v.ownBlock ≠ some q := by
    intro e
    have := (hown.lt q e).1
    omega
  have HH := Lib.hid hbv
  clear hbv
  go_enter Tryd.func22, Tryd.ntmps22
  go_wp2_with (at_builtin; (refine Lib.wpList_append_own_string _ rfl (.tmp 8) (.tmp 9) 46 9 rfl B 5 i0 Tryd.underlying46 Tryd.underlying9 hi0 hz0 hz1 hz2 v l.length (Lib.byteCells l) rfl hown s rfl hn1 hn2 hB ?_); go_loud (intro v' w1 hown1 hgrow hv9; clear hv9; obtain ⟨g1, cap1, rfl, hg1, hg2⟩ := hown1.form (by omega); have cq : w1.cell? ⟨q, 0, none⟩ = some v := (hgrow.cell_far ⟨q, 0, none⟩ lq (Ne.symm hne)).trans c0; have fq : w1.frozen? ⟨q, 0, none⟩ = false := (hgrow.frozen_far ⟨q, 0, none⟩ lq (Ne.symm hne)).trans (HH.out.frozen 0)))
  go_end0
  have hbq : Blk w1 q 48 #[v] := HH.out.grown hgrow (Ne.symm hne)
  have hd := Below.grown (B := q) (Below.refl q w) hgrow (by omega) (fun k hk => by have := (hown.lt k hk).1; omega)
  refine ⟨rfl, ⟨hq, ?_, _, hbq.set_ 0 _, ?_⟩, hd.setCell (Nat.le_refl _) _⟩
  · have := hgrow.size
    simp
    omega
  · refine own_set ?_ hq
    have e1 : Lib.byteCells (l ++ s.data.toList) = Lib.byteCells l ++ Lib.strCells s := by rw [strCells_is]; unfold Lib.byteCells; rw [List.map_append]
    rw [List.length_append, e1]
    exact hown1
set_option maxRecDepth 100000 in
theorem wstr_any (l : List UInt8) (B q : Nat) (w : World) (hl : 0 < l.length) (h : WAt w B q l) :
    Calls Tryd.prog 26 #[.pointer (some ⟨q, 0, none⟩)] w fun e w' => e = .returned (.string ⟨l.toArray⟩) ∧ w = w' := by
  obtain ⟨hq, hB, v, hbv, hown⟩ := h
  obtain ⟨g, cap, rfl, _, _⟩ := hown.form hl
  have hcv := conv_text w g cap l (fun j hj => by
    rw [hown.cellAt j (by omega)]
    unfold Lib.byteCells
    rw [List.getElem?_map, List.getElem?_eq_getElem hj, List.getD_eq_getElem?_getD, List.getElem?_eq_getElem hj]
    rfl)
  have c0 := hbv.cell 0
  clear hown hl
  go_enter Tryd.func26, Tryd.ntmps26
  go_wp2
  go_ret
  exact ⟨rfl, rfl⟩
end Go.Proofs.YtefkodglfhonpaaDoor
