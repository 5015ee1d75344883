/- The walks of the laws StampReads and StampBytes. Conditions: those of their rows. -/
import Derived.Test.YtefkodglfhonpaaDoorSLaw
namespace Go.Proofs.YtefkodglfhonpaaDoor
open Go.RowKit Go.PlainAid
set_option linter.unusedVariables false
theorem count_105 (w : World) : Calls Tryd.prog 11 #[.int .i64 105] w fun e w' => e = .returned (.int .i64 2) ∧ w = w' := by
  go_enter Tryd.func11, Tryd.ntmps11
  go_wp2
  go_ret
  exact ⟨rfl, rfl⟩
theorem SL_bt (l : List UInt8) (j : Nat) (h : j < l.length) : bt (SL l) j = ((l[j]).toNat : Int) := by
  unfold bt
  rw [dif_pos (by rw [SL_size]; exact h)]
  rfl
theorem alive_text : ∃ tx : ByteArray, tx.size = 128 ∧ bt tx 0 = 1 ∧ bt tx 120 = 1 ∧ ∀ w, Calls Tryd.prog 10 #[.agg #[.int .i64 1, .int .i64 0, .string ⟨#[104, 105]⟩]] w fun e w' => e = .returned (.tuple #[.string tx, .int .i64 0]) ∧ Below w.heap.size w w' := by
  have hd : (⟨#[104, 105]⟩ : ByteArray).data.toList.length ≤ 104 := by decide
  refine ⟨SL (Pl.enc crc 1 0 (⟨#[104, 105]⟩ : ByteArray).data.toList), ?_, ?_, ?_, fun w => bytes_yes 1 0 ⟨#[104, 105]⟩ w (by decide) (by decide)⟩
  · rw [SL_size, Pl.enc_length crc crc_length _ _ _ hd]
  · have hl := Pl.enc_length crc crc_length 1 0 _ hd
    rw [SL_bt _ _ (by rw [hl]; omega)]
    have h := Pl.enc_num (c := crc) (num := 1) (idx := 0) (d := (⟨#[104, 105]⟩ : ByteArray).data.toList)
    have h2 := congrArg (fun l : List UInt8 => l[0]?) h
    simp only [List.getElem?_take_of_lt (show 0 < 8 by omega)] at h2
    rw [List.getElem?_eq_getElem (by rw [hl]; omega)] at h2
    have h3 : (Pl.le 8 1)[0]? = some 1 := by decide
    rw [h3] at h2
    injection h2 with h2
    rw [h2]
    rfl
  · have hl := Pl.enc_length crc crc_length 1 0 _ hd
    rw [SL_bt _ _ (by rw [hl]; omega)]
    have h := Pl.enc_last (c := crc) crc_length (num := 1) (idx := 0) hd
    have h2 := congrArg (fun l : List UInt8 => l[0]?) h
    simp only [List.getElem?_drop, Nat.add_zero] at h2
    rw [List.getElem?_eq_getElem (by rw [hl]; omega)] at h2
    have h3 : (Pl.le 8 1)[0]? = some 1 := by decide
    rw [h3] at h2
    injection h2 with h2
    rw [h2]
    rfl
set_option maxRecDepth 100000 in
theorem alive_any (w : World) : Calls Tryd.prog 6 #[] w fun e w' => e = .returned (.bool true) ∧ Below w.heap.size w w' := by
  obtain ⟨tx, hsz, e0, e1, HB⟩ := alive_text
  have hbt := get_bt tx
  go_enter Tryd.func6, Tryd.ntmps6
  go_wp2_with fail
  refine (HB _).mono ?_
  rintro e w1 ⟨rfl, hb1⟩
  go_wp2_with fail
  refine (count_105 _).mono ?_
  rintro e w2 ⟨rfl, rfl⟩
  go_wp2
  go_ret
  exact ⟨rfl, hb1⟩
set_option maxRecDepth 100000 in
theorem reads_l (s : ByteArray) (w : World) (h : 300 < s.size) : Calls Tryd.prog 3 #[.string s] w fun e w' => e = .returned (.bool true) ∧ Below w.heap.size w w' := by
  go_enter Tryd.func3, Tryd.ntmps3
  go_wp2_with fail
  refine (alive_any _).mono ?_
  rintro e w1 ⟨rfl, hb1⟩
  go_wp2
  go_ret
  exact ⟨rfl, hb1⟩
set_option maxRecDepth 100000 in
theorem reads_n (s : ByteArray) (w : World) (h : s.size ≤ 300) (HR : Reads7 s badV) : Calls Tryd.prog 3 #[.string s] w fun e w' => e = .returned (.bool true) ∧ Below w.heap.size w w' := by
  unfold Reads7 badV at HR
  go_enter Tryd.func3, Tryd.ntmps3
  go_wp2_with fail
  refine (alive_any _).mono ?_
  rintro e w1 ⟨rfl, hb1⟩
  go_wp2_with fail
  refine (HR _).mono ?_
  rintro e w2 ⟨rfl, hb2⟩
  go_wp2
  go_ret
  exact ⟨rfl, below_al (below_on hb1 hb2) _⟩
set_option maxRecDepth 100000 in
theorem reads_y (s : ByteArray) (n i : Nat) (d : ByteArray) (w : World) (h : s.size ≤ 300) (HR : Reads7 s (okV n i d)) (HG : ∀ w, Calls Tryd.prog 8 #[.int .i64 n, .int .i64 i, .string d] w fun e w' => e = .returned (.bool true) ∧ w = w') (HB : ∀ w, Calls Tryd.prog 9 #[.int .i64 n, .int .i64 i, .string d] w fun e w' => e = .returned (.string s) ∧ Below w.heap.size w w') : Calls Tryd.prog 3 #[.string s] w fun e w' => e = .returned (.bool true) ∧ Below w.heap.size w w' := by
  unfold Reads7 okV at HR
  go_enter Tryd.func3, Tryd.ntmps3
  go_wp2_with fail
  refine (alive_any _).mono ?_
  rintro e w1 ⟨rfl, hb1⟩
  go_wp2_with fail
  refine (HR _).mono ?_
  rintro e w2 ⟨rfl, hb2⟩
  go_wp2_with fail
  refine (HG _).mono ?_
  rintro e w3 ⟨rfl, rfl⟩
  go_wp2_with fail
  refine (HB _).mono ?_
  rintro e w4 ⟨rfl, hb4⟩
  go_wp2
  go_ret
  exact ⟨rfl, below_on (below_al (below_on hb1 hb2) _) hb4⟩
theorem refgood_is (n i : Int) (d : ByteArray) (b : Bool) (h : isLeaf n i d = b) (w : World) : Calls Tryd.prog 8 #[.int .i64 n, .int .i64 i, .string d] w fun e w' => e = .returned (.bool b) ∧ w = w' := h ▸ refgood_any n i d w
theorem refenc (n i : Nat) (d : ByteArray) (h : isLeaf n i d = true) (w : World) : Calls Tryd.prog 9 #[.int .i64 n, .int .i64 i, .string d] w fun e w' => e = .returned (.string (SL (Pl.enc crc n i d.data.toList))) ∧ Below w.heap.size w w' := by
  obtain ⟨p1, p2, p3, p4, p5⟩ := leaf_parts h
  exact refbytes_any n i d w (by omega) (by omega) p5
theorem walkStampReads (s : ByteArray) (_hs : s.size ≤ maxLen) (w : World) : Calls Tryd.prog 3 #[.string s] w fun e w' => e = .returned (.bool true) ∧ Below w.heap.size w w' := by
  by_cases h : 300 < s.size
  · exact reads_l s w h
  · rcases sread_any s with ⟨hb, _⟩ | ⟨n, i, d, hg, he, hr⟩
    · exact reads_n s w (by omega) hb
    · exact reads_y s n i d w (by omega) hr (fun w => refgood_is n i d true hg w) (fun w => by have := refenc n i d hg w; rwa [← he] at this)
/-! StampBytes -/
set_option maxRecDepth 100000 in
theorem sb_l (n i : Int) (d : ByteArray) (w : World) (h : 300 < d.size) : Calls Tryd.prog 5 #[.agg #[.int .i64 n, .int .i64 i, .string d]] w fun e w' => e = .returned (.bool true) ∧ Below w.heap.size w w' := by
  have Ba := Blk.new w 24 #[.int .i64 n, .int .i64 i, .string d]
  go_enter Tryd.func5, Tryd.ntmps5
  go_wp2_with fail
  refine (alive_any _).mono ?_
  rintro e w1 ⟨rfl, hb1⟩
  have Ba1 := Ba.below hb1 Ba.lt
  obtain ⟨c0, c1, c2⟩ := leaf_cells Ba1
  have hB1 := below_on (below_al (Below.refl _ w) (.cells #[.int .i64 n, .int .i64 i, .string d] 24)) hb1
  clear Ba Ba1 hb1
  go_wp2
  go_ret
  exact ⟨rfl, hB1⟩
set_option maxRecDepth 100000 in
theorem sb_n (n i : Int) (d : ByteArray) (w : World) (h : d.size ≤ 300) (HN : ∀ w, Calls Tryd.prog 10 #[.agg #[.int .i64 n, .int .i64 i, .string d]] w fun e w' => e = .returned (.tuple #[.string ⟨#[]⟩, .int .i64 1]) ∧ Below w.heap.size w w') (HG : ∀ w, Calls Tryd.prog 8 #[.int .i64 n, .int .i64 i, .string d] w fun e w' => e = .returned (.bool false) ∧ w = w') : Calls Tryd.prog 5 #[.agg #[.int .i64 n, .int .i64 i, .string d]] w fun e w' => e = .returned (.bool true) ∧ Below w.heap.size w w' := by
  have Ba := Blk.new w 24 #[.int .i64 n, .int .i64 i, .string d]
  go_enter Tryd.func5, Tryd.ntmps5
  go_wp2_with fail
  refine (alive_any _).mono ?_
  rintro e w1 ⟨rfl, hb1⟩
  have Ba1 := Ba.below hb1 Ba.lt
  obtain ⟨c0, c1, c2⟩ := leaf_cells Ba1
  have hB1 := below_on (below_al (Below.refl _ w) (.cells #[.int .i64 n, .int .i64 i, .string d] 24)) hb1
  clear Ba hb1
  go_wp2_with fail
  refine (HN _).mono ?_
  rintro e w2 ⟨rfl, hb2⟩
  have Ba2 := Ba1.below hb2 Ba1.lt
  clear c0 c1 c2 Ba1
  obtain ⟨c0, c1, c2⟩ := leaf_cells Ba2
  go_wp2_with fail
  refine (HG _).mono ?_
  rintro e w3 ⟨rfl, rfl⟩
  go_wp2
  go_ret
  exact ⟨rfl, below_on hB1 hb2⟩
set_option maxRecDepth 100000 in
theorem sb_y (n i : Nat) (d : ByteArray) (tx : ByteArray) (w : World) (h : d.size ≤ 300) (HN : ∀ w, Calls Tryd.prog 10 #[.agg #[.int .i64 n, .int .i64 i, .string d]] w fun e w' => e = .returned (.tuple #[.string tx, .int .i64 0]) ∧ Below w.heap.size w w') (HG : ∀ w, Calls Tryd.prog 8 #[.int .i64 n, .int .i64 i, .string d] w fun e w' => e = .returned (.bool true) ∧ w = w') (HR : Reads7 tx (okV n i d)) (HB : ∀ w, Calls Tryd.prog 9 #[.int .i64 n, .int .i64 i, .string d] w fun e w' => e = .returned (.string tx) ∧ Below w.heap.size w w') : Calls Tryd.prog 5 #[.agg #[.int .i64 n, .int .i64 i, .string d]] w fun e w' => e = .returned (.bool true) ∧ Below w.heap.size w w' := by
  unfold Reads7 okV at HR
  have Ba := Blk.new w 24 #[.int .i64 n, .int .i64 i, .string d]
  go_enter Tryd.func5, Tryd.ntmps5
  go_wp2_with fail
  refine (alive_any _).mono ?_
  rintro e w1 ⟨rfl, hb1⟩
  have Ba1 := Ba.below hb1 Ba.lt
  obtain ⟨c0, c1, c2⟩ := leaf_cells Ba1
  have hB1 := below_on (below_al (Below.refl _ w) (.cells #[.int .i64 n, .int .i64 i, .string d] 24)) hb1
  clear Ba hb1
  go_wp2_with fail
  refine (HN _).mono ?_
  rintro e w2 ⟨rfl, hb2⟩
  have Ba2 := Ba1.below hb2 Ba1.lt
  have hB2 := below_on hB1 hb2
  clear c0 c1 c2 Ba1 hB1 hb2
  obtain ⟨c0, c1, c2⟩ := leaf_cells Ba2
  go_wp2_with fail
  refine (HG _).mono ?_
  rintro e w3 ⟨rfl, rfl⟩
  go_wp2_with fail
  refine (HR _).mono ?_
  rintro e w4 ⟨rfl, hb4⟩
  have Ba4 := Ba2.below hb4 Ba2.lt
  have hB4 := below_on hB2 hb4
  have Bx : Blk (w4.alloc (.cells #[.int .i64 n, .int .i64 i, .string d] 24)) w4.heap.size 24 #[.int .i64 n, .int .i64 i, .string d] := Blk.new _ _ _
  clear c0 c1 c2 Ba2 hB2 hb4
  obtain ⟨c0, c1, c2⟩ := leaf_cells Ba4
  have l4 := Ba4.lt
  go_wp2_with fail
  refine (HB _).mono ?_
  rintro e w5 ⟨rfl, hb5⟩
  have Ba5 := (Ba4.alloc (.cells #[.int .i64 n, .int .i64 i, .string d] 24)).below hb5 (Ba4.alloc _).lt
  have Bx5 := Bx.below hb5 Bx.lt
  have hB5 := below_on (below_al hB4 (.cells #[.int .i64 n, .int .i64 i, .string d] 24)) hb5
  clear c0 c1 c2 Ba4 hB4 hb5 Bx
  obtain ⟨c0, c1, c2⟩ := leaf_cells Ba5
  obtain ⟨x0, x1, x2⟩ := leaf_cells Bx5
  go_wp2
  go_ret
  exact ⟨rfl, hB5⟩
theorem walkStampBytes (n : Int) (_hn : (Lit.int .i64 n).wf = true) (i : Int) (_hi : (Lit.int .i64 i).wf = true) (d : ByteArray) (_hd : d.size ≤ maxLen) (w : World) : Calls Tryd.prog 5 #[.agg #[.int .i64 n, .int .i64 i, .string d]] w fun e w' => e = .returned (.bool true) ∧ Below w.heap.size w w' := by
  by_cases h : 300 < d.size
  · exact sb_l n i d w h
  · cases hg : isLeaf n i d
    · exact sb_n n i d w (by omega) (fun w => bytes_no n i d w hg) (fun w => refgood_is n i d false hg w)
    · obtain ⟨p1, p2, p3, p4, p5⟩ := leaf_parts hg
      obtain ⟨n', rfl⟩ := Int.eq_ofNat_of_zero_le (show 0 ≤ n by omega)
      obtain ⟨i', rfl⟩ := Int.eq_ofNat_of_zero_le p3
      exact sb_y n' i' d _ w (by omega) (fun w => bytes_yes n' i' d w hg p5) (fun w => refgood_is n' i' d true hg w) (sread_enc n' i' d hg) (fun w => refenc n' i' d hg w)
end Go.Proofs.YtefkodglfhonpaaDoor
