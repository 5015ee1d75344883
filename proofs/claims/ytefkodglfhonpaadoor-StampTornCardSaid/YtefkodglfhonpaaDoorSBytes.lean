/- The contract of stamp.Bytes. Conditions: none. -/
import Derived.Test.YtefkodglfhonpaaDoorRefBytes
import Derived.Test.YtefkodglfhonpaaDoorLays
namespace Go.Proofs.YtefkodglfhonpaaDoor
open Go.RowKit Go.PlainAid
theorem good_is (n i : Int) (d : ByteArray) (b : Bool) (w : World) (h : isLeaf n i d = b) :
    Calls Tryd.prog 17 #[.agg #[.int .i64 n, .int .i64 i, .string d]] w fun e w' => e = .returned (.bool b) ∧ Below w.heap.size w w' := h ▸ good_any n i d w
set_option maxRecDepth 100000 in
theorem bytes_no (n i : Int) (d : ByteArray) (w : World) (h : isLeaf n i d = false) :
    Calls Tryd.prog 10 #[.agg #[.int .i64 n, .int .i64 i, .string d]] w fun e w' => e = .returned (.tuple #[.string ⟨#[]⟩, .int .i64 1]) ∧ Below w.heap.size w w' := by
  have HT := fun w => good_is n i d false w h
  clear h
  go_enter Tryd.func10, Tryd.ntmps10
  go_wp2_with fail
  refine (HT _).mono ?_
  rintro e w1 ⟨rfl, hb1⟩
  go_wp2
  go_ret2
  exact ⟨rfl, below_on ((Below.refl _ _).alloc (Nat.le_refl _) _) hb1⟩
theorem leaf_cells {w : World} {b : Nat} {n i : Int} {d : ByteArray} (h : Blk w b 24 #[.int .i64 n, .int .i64 i, .string d]) : w.cell? ⟨b, 0, none⟩ = some (.int .i64 n) ∧ w.cell? ⟨b, 1, none⟩ = some (.int .i64 i) ∧ w.cell? ⟨b, 2, none⟩ = some (.string d) := ⟨h.cell 0, h.cell 1, h.cell 2⟩
theorem rep_noughts (c : Nat) (w : World) (hc : c ≤ 1000) : Calls Tryd.prog 23 #[.string ⟨#[0]⟩, .int .i64 c] w fun e w' => e = .returned (.string (SL (List.replicate c 0))) ∧ Below w.heap.size w w' := by
  refine (Tryd.strings_Repeat ⟨#[0]⟩ c w (by omega) (by show 1 * c ≤ _; omega)).mono fun e w' ⟨he, hw⟩ => ⟨?_, hw⟩
  rw [he]
  have e1 : Lib.repeatL [0] c = List.replicate c (0 : UInt8) := by
    have := Lib.repeatL_replicate 0 1 c
    rwa [Nat.mul_one] at this
  show Ending.returned (.string ⟨(Lib.repeatL [0] c).toArray⟩) = _
  rw [e1]
  rfl
theorem wint8 (n : Nat) (l : List UInt8) (B q : Nat) (w : World) (hl : l.length ≤ 1000) (h : WAt w B q l) :
    Calls Tryd.prog 21 #[.pointer (some ⟨q, 0, none⟩), .int .i64 8, .int .i64 n] w fun e w' => e = .returned (.tuple #[]) ∧ WAt w' B q (l ++ Pl.le 8 n) ∧ Below q w w' := wint_any 8 n l B q w (.inr rfl) hl h
theorem wint2 (n : Nat) (l : List UInt8) (B q : Nat) (w : World) (hl : l.length ≤ 1000) (h : WAt w B q l) :
    Calls Tryd.prog 21 #[.pointer (some ⟨q, 0, none⟩), .int .i64 2, .int .i64 n] w fun e w' => e = .returned (.tuple #[]) ∧ WAt w' B q (l ++ Pl.le 2 n) ∧ Below q w w' := wint_any 2 n l B q w (.inl rfl) hl h
theorem watBlk {w w' : World} {q b : Nat} {t : TypeId} {cs : Array Value} (h : Blk w b t cs) (hb : Below q w w') (hq : b < q) : Blk w' b t cs := h.below hb hq
set_option maxRecDepth 100000 in
set_option maxHeartbeats 4000000 in
theorem bytes_yes (n i : Nat) (d : ByteArray) (w : World) (h : isLeaf n i d = true) (hd : d.size ≤ 104) :
    Calls Tryd.prog 10 #[.agg #[.int .i64 n, .int .i64 i, .string d]] w fun e w' => e = .returned (.tuple #[.string (SL (Pl.enc crc n i d.data.toList)), .int .i64 0]) ∧ Below w.heap.size w w' := by
  have HT := fun w => good_is n i d true w h
  clear h
  obtain ⟨c, hc⟩ : ∃ c : Nat, (104 : Int) - (d.size : Int) = (c : Int) := ⟨104 - d.size, by omega⟩
  have hdl : d.data.toList.length = d.size := rfl
  have hcd : c = 104 - d.data.toList.length := by omega
  have hc1 : c ≤ 104 := by omega
  have HD := Lib.hid (And.intro hcd hdl)
  clear hcd hdl
  have Ba := Blk.new w 24 #[.int .i64 n, .int .i64 i, .string d]
  go_enter Tryd.func10, Tryd.ntmps10
  go_wp2_with fail
  refine (HT _).mono ?_
  rintro e w1 ⟨rfl, hb1⟩
  have Ba1 := Ba.below hb1 Ba.lt
  have hB1 := below_on ((Below.refl _ w).alloc (Nat.le_refl _) (.cells #[.int .i64 n, .int .i64 i, .string d] 24)) hb1
  have l1 := Ba1.lt
  obtain ⟨c0, c1, c2⟩ := leaf_cells Ba1
  clear Ba hb1
  go_wp2_with fail
  have hW0 : WAt (w1.alloc (.cells #[.slice none 0 0] 48)) (w1.heap.size + 1) w1.heap.size [] := ⟨by omega, by simp, _, Blk.new _ _ _, World.ownsRow_nil _ _ _ _⟩
  have Ba2 := Ba1.alloc (.cells #[.slice none 0 0] 48)
  have hB2 := hB1.alloc hB1.size (.cells #[.slice none 0 0] 48)
  have hqw := hB1.size
  generalize (w1.alloc (.cells #[.slice none 0 0] 48)) = W at *
  generalize w1.heap.size = q at *
  clear c0 c1 c2 Ba1 hB1
  have L0 : ([] : List UInt8).length ≤ 1000 := by simp
  refine (wint8 n [] _ q _ L0 hW0).mono ?_
  rintro e w2 ⟨rfl, hW2, hb2⟩
  have Ba3 := watBlk Ba2 hb2 l1
  have hB3 := hB2.trans (hb2.mono hqw)
  obtain ⟨c0, c1, c2⟩ := leaf_cells Ba3
  clear Ba2 hB2 hb2 hW0
  go_wp2_with fail
  refine (wint2 i _ _ q _ (by simp [Pl.le_length]) hW2).mono ?_
  rintro e w3 ⟨rfl, hW3, hb3⟩
  have Ba4 := watBlk Ba3 hb3 l1
  have hB4 := hB3.trans (hb3.mono hqw)
  clear c0 c1 c2 Ba3 hB3 hb3 hW2
  obtain ⟨c0, c1, c2⟩ := leaf_cells Ba4
  go_wp2_with fail
  refine (wint2 d.size _ _ q _ (by simp [Pl.le_length]) hW3).mono ?_
  rintro e w4 ⟨rfl, hW4, hb4⟩
  have Ba5 := watBlk Ba4 hb4 l1
  have hB5 := hB4.trans (hb4.mono hqw)
  clear c0 c1 c2 Ba4 hB4 hb4 hW3
  obtain ⟨c0, c1, c2⟩ := leaf_cells Ba5
  go_wp2_with fail
  refine (wraw_any d _ _ q _ (by simp [Pl.le_length]) (by simp [Pl.le_length]) (by omega) hW4).mono ?_
  rintro e w5 ⟨rfl, hW5, hb5⟩
  have Ba6 := watBlk Ba5 hb5 l1
  have hB6 := hB5.trans (hb5.mono hqw)
  clear c0 c1 c2 Ba5 hB5 hb5 hW4
  obtain ⟨c0, c1, c2⟩ := leaf_cells Ba6
  go_wp2_with fail
  refine (rep_noughts c _ (by omega)).mono ?_
  rintro e w6 ⟨rfl, hb6⟩
  have hW6 := hW5.below hb6
  have Ba7 := Ba6.below hb6 Ba6.lt
  have hB7 := below_on hB6 hb6
  clear c0 c1 c2 Ba6 hB6 hb6 hW5
  go_wp2_with fail
  refine (wraw_any _ _ _ q _ (by simp [Pl.le_length]; omega) (by simp [Pl.le_length]; omega) (by rw [SL_size]; simp; omega) hW6).mono ?_
  rintro e w7 ⟨rfl, hW7, hb7⟩
  have Ba8 := watBlk Ba7 hb7 l1
  have hB8 := hB7.trans (hb7.mono hqw)
  clear Ba7 hB7 hb7 hW6
  have hL : ([] ++ Pl.le 8 n ++ Pl.le 2 i ++ Pl.le 2 d.size ++ d.data.toList ++ (SL (List.replicate c 0)).data.toList) = Pl.head n i d.data.toList := by
    rw [show (SL (List.replicate c (0 : UInt8))).data.toList = List.replicate c 0 by simp [SL]]
    unfold Pl.head
    rw [← HD.out.1, HD.out.2]
    simp
  rw [hL] at hW7
  have hhl : (Pl.head n i d.data.toList).length = 116 := Pl.head_length _ _ _ (by rw [HD.out.2]; exact hd)
  have hsz : (SL (Pl.head n i d.data.toList)).size ≤ 4096 := by rw [SL_size]; omega
  clear hL
  go_wp2_with fail
  refine (wstr_any _ _ q _ (by omega) hW7).mono ?_
  rintro e w8 ⟨rfl, rfl⟩
  go_wp2_with fail
  refine (castag_Sum0 (SL (Pl.head n i d.data.toList)) hsz _).mono ?_
  rintro e w9 ⟨rfl, rfl⟩
  rw [show (SL (Pl.head n i d.data.toList)).data.toList = Pl.head n i d.data.toList by simp [SL]]
  go_wp2_with fail
  refine (castag_Bytes _ _).mono ?_
  rintro e w10 ⟨rfl, hb10⟩
  have hW10 := hW7.below hb10
  have Ba10 := Ba8.below hb10 Ba8.lt
  have hB10 := below_on hB8 hb10
  clear Ba8 hB8 hb10 hW7
  go_wp2_with fail
  refine (wraw_any _ _ _ q _ (by omega) (by omega) (by show 4 ≤ 1000; omega) hW10).mono ?_
  rintro e w11 ⟨rfl, hW11, hb11⟩
  have Ba11 := watBlk Ba10 hb11 l1
  have hB11 := hB10.trans (hb11.mono hqw)
  clear Ba10 hB10 hb11 hW10
  have e4 : (bytesS (Crc.sum 0#32 (Pl.head n i d.data.toList))).data.toList = crc (Pl.head n i d.data.toList) := by simp [bytesS, crc]
  rw [e4] at hW11
  clear e4
  have hl4 : (Pl.head n i d.data.toList ++ crc (Pl.head n i d.data.toList)).length = 120 := by rw [List.length_append, hhl, crc_length]
  obtain ⟨c0, c1, c2⟩ := leaf_cells Ba11
  go_wp2_with fail
  refine (wint8 n _ _ q _ (by omega) hW11).mono ?_
  rintro e w12 ⟨rfl, hW12, hb12⟩
  have hB12 := hB11.trans (hb12.mono hqw)
  clear c0 c1 c2 Ba11 hB11 hb12 hW11
  have hL : (Pl.head n i d.data.toList ++ crc (Pl.head n i d.data.toList) ++ Pl.le 8 n) = Pl.enc crc n i d.data.toList := by unfold Pl.enc; rw [List.append_assoc]
  rw [hL] at hW12
  have hl5 : (Pl.enc crc n i d.data.toList).length = 128 := Pl.enc_length crc crc_length _ _ _ (by rw [HD.out.2]; exact hd)
  clear hL
  go_wp2_with fail
  refine (wstr_any _ _ q _ (by omega) hW12).mono ?_
  rintro e w13 ⟨rfl, rfl⟩
  go_wp2
  go_ret2
  exact ⟨rfl, hB12⟩
end Go.Proofs.YtefkodglfhonpaaDoor
