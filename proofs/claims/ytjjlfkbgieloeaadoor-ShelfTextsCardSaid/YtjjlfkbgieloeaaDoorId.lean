/- The contract of shelf.Id. Conditions: texts of a length that there can be. -/
import Derived.Test.YtjjlfkbgieloeaaDoorGood
import Derived.Lib.BufferWrite
import Derived.Laws.CopyOwn
import Derived.Test.YtjjlfkbgieloeaaDoorFrom
namespace Go.Proofs.YtjjlfkbgieloeaaDoor
open Go.RowKit Go.PlainAid
theorem good_is (g s : ByteArray) (st : Int) (b : Bool) (w : World) (hg : g.size ≤ 9223372036854775807) (hs : s.size ≤ 9223372036854775807) (h : isPlace g s st = b) :
    Calls Tryd.prog 32 #[.agg #[.string g, .string s, .int .i64 st]] w fun e w' => e = .returned (.bool b) ∧ Below w.heap.size w w' := h ▸ good_any g s st w hg hs
set_option maxRecDepth 100000 in
theorem id_no (g s : ByteArray) (st : Int) (w : World) (hg : g.size ≤ 9223372036854775807) (hs : s.size ≤ 9223372036854775807) (h : isPlace g s st = false) :
    Calls Tryd.prog 30 #[.agg #[.string g, .string s, .int .i64 st]] w fun e w' => e = .returned (.tuple #[.agg #[.int .u64 0, .int .u64 0], .int .i64 1]) ∧ Below w.heap.size w w' := by
  have HT := fun w => good_is g s st false w hg hs h
  clear h
  have Br : Blk ((w.alloc (.cells #[.string g, .string s, .int .i64 st] 39)).alloc (.cells #[.int .u64 0, .int .u64 0] 24)) (w.heap.size + 1) 24 #[.int .u64 0, .int .u64 0] := by
    have := Blk.new (w.alloc (.cells #[.string g, .string s, .int .i64 st] 39)) 24 #[.int .u64 0, .int .u64 0]
    simpa using this
  go_enter Tryd.func30, Tryd.ntmps30
  go_wp2_with fail
  refine (HT _).mono ?_
  rintro e w1 ⟨rfl, hb1⟩
  have Br1 := Blk.carry Br hb1
  have c0 := cell_of0 Br1
  have c1 := cell_of1 Br1
  have f0 := Br1.frozen 0
  have f1 := Br1.frozen 1
  have l0 := Br1.lt
  go_wp2
  exact bodyPost_ret (v := .tuple #[.agg #[.int .u64 0, .int .u64 0], .int .i64 1]) (by simp [results, Tryd.results30, go_sem, c0, c1]) rfl ⟨rfl, by repeat (with_reducible first | exact Below.refl _ _ | assumption | refine below_al ?_ _ | refine below_set ?_ (by omega) | refine below_dr ?_ | refine below_on ?_ (by assumption))⟩
/-- what copy leaves in a row -/
def put (cur : Array Value) (o : Nat) (s : ByteArray) : Array Value := (cur.toList.take o ++ Lib.byteCells s.data.toList ++ cur.toList.drop (o + s.size)).toArray
theorem copy_run {W : World} {g : Nat} {cur : Array Value} (h : Blk W g 58 cur) (o n : Nat) (s : ByteArray) (hle : s.size ≤ n) (hfit : o + s.size ≤ cur.size) :
    (Builtin.copy_ #[59, 9] 3 #[.slice (some ⟨g, o, none⟩) n n, .string s]).run Tryd.prog W = .ok (goInt s.size) (W.setRow g (put cur o s)) :=
  Lib.run_copy_row_string (P := Tryd.prog) W 59 9 3 5 g o n n s cur 58 Tryd.underlying59 (by kernel_rfl) h hle hfit
theorem Blk.row {W : World} {g : Nat} {cur new : Array Value} (h : Blk W g 58 cur) : Blk (W.setRow g new) g 58 new := by
  unfold Blk at h ⊢
  simp [World.setRow, Array.getElem?_modify, h]
theorem Blk.rowFar {W : World} {g b : Nat} {t : TypeId} {cs new : Array Value} (h : Blk W b t cs) (hn : b ≠ g) : Blk (W.setRow g new) b t cs := by
  unfold Blk at h ⊢
  simp [World.setRow, Array.getElem?_modify, h]
  intro e
  exact absurd e.symm hn
theorem below_row {w W : World} {g : Nat} {new : Array Value} (h : Below w.heap.size w W) (hn : w.heap.size ≤ g) : Below w.heap.size w (W.setRow g new) := below_setRow h hn new
def zeros16 : Array Value := #[.int .u8 0, .int .u8 0, .int .u8 0, .int .u8 0, .int .u8 0, .int .u8 0, .int .u8 0, .int .u8 0, .int .u8 0, .int .u8 0, .int .u8 0, .int .u8 0, .int .u8 0, .int .u8 0, .int .u8 0, .int .u8 0]
theorem plc_bounds {g s : ByteArray} {st : Int} (h : isPlace g s st = true) : g.size ≤ 10 ∧ s.size ≤ 4 ∧ 0 ≤ st ∧ st ≤ 2 := by
  unfold isPlace isName isState at h
  simp only [Bool.and_eq_true, decide_eq_true_eq] at h
  exact ⟨h.1.1.1.2, h.1.2.1.2, h.2.1, h.2.2⟩
/-- the sixteen bytes of a place's name, as cells -/
def idCells (g s : ByteArray) (st : Int) : Array Value := ((put (put zeros16 0 g) 10 s).setIfInBounds 14 (.int .u8 st)).setIfInBounds 15 (.int .u8 1)
theorem put_size (cur : Array Value) (o : Nat) (s : ByteArray) (h : o + s.size ≤ cur.size) : (put cur o s).size = cur.size := by
  unfold put
  have h2 : (Lib.byteCells s.data.toList).length = s.size := by rw [Lib.byteCells_length, ← Lib.size_eq]
  simp [h2]
  omega
/-- the sixteen bytes of a place's name -/
def idL (g s : ByteArray) (st : Int) : List UInt8 := g.data.toList ++ List.replicate (10 - g.size) 0 ++ s.data.toList ++ List.replicate (4 - s.size) 0 ++ [UInt8.ofNat st.toNat, 1]
def idText (g s : ByteArray) (st : Int) : ByteArray := ⟨(idL g s st).toArray⟩
theorem zeros_list : zeros16.toList = List.replicate 16 (.int .u8 0) := rfl
theorem byteCells_len (g : ByteArray) : (Lib.byteCells g.data.toList).length = g.size := by rw [Lib.byteCells_length, ← Lib.size_eq]
theorem put_one (g : ByteArray) (h : g.size ≤ 10) : (put zeros16 0 g).toList = Lib.byteCells g.data.toList ++ List.replicate (10 - g.size) (.int .u8 0) ++ List.replicate 6 (.int .u8 0) := by
  unfold put
  rw [zeros_list]
  simp only [List.take_zero, List.nil_append, Nat.zero_add, List.drop_replicate, List.append_assoc, List.append_cancel_left_eq, List.replicate_append_replicate]
  rw [show 10 - g.size + 6 = 16 - g.size by omega]
theorem put_two (g s : ByteArray) (h : g.size ≤ 10) (h2 : s.size ≤ 4) : (put (put zeros16 0 g) 10 s).toList = Lib.byteCells g.data.toList ++ List.replicate (10 - g.size) (.int .u8 0) ++ Lib.byteCells s.data.toList ++ List.replicate (4 - s.size) (.int .u8 0) ++ [.int .u8 0, .int .u8 0] := by
  have e : (Lib.byteCells g.data.toList ++ List.replicate (10 - g.size) (Value.int .u8 0)).length = 10 := by
    rw [List.length_append, byteCells_len, List.length_replicate]; omega
  show ((put zeros16 0 g).toList.take 10 ++ Lib.byteCells s.data.toList ++ (put zeros16 0 g).toList.drop (10 + s.size)).toArray.toList = _
  rw [put_one g h, List.take_append_of_le_length (by omega), List.take_of_length_le (by omega), List.drop_append, e, List.drop_of_length_le (by omega), List.nil_append, show 10 + s.size - 10 = s.size by omega, List.drop_replicate]
  rw [show 6 - s.size = (4 - s.size) + 2 by omega, ← List.replicate_append_replicate]
  simp [List.replicate]
theorem id_cells (g s : ByteArray) (st : Int) (h : g.size ≤ 10) (h2 : s.size ≤ 4) (h3 : 0 ≤ st) (h4 : st ≤ 2) : idCells g s st = ((idL g s st).map fun b => Value.int .u8 (b.toNat : Int)).toArray := by
  have h5 := put_two g s h h2
  have hl : (Lib.byteCells g.data.toList ++ List.replicate (10 - g.size) (Value.int .u8 0) ++ Lib.byteCells s.data.toList ++ List.replicate (4 - s.size) (Value.int .u8 0)).length = 14 := by
    simp only [List.length_append, byteCells_len, List.length_replicate]; omega
  apply Array.toList_inj.1
  unfold idCells
  rw [Array.toList_setIfInBounds, Array.toList_setIfInBounds, h5, List.set_append_right _ _ (by omega), List.set_append_right _ _ (by omega), hl]
  unfold idL Lib.byteCells
  rcases (by omega : st = 0 ∨ st = 1 ∨ st = 2) with rfl | rfl | rfl <;> simp
theorem id_row {W : World} {G : Nat} {g s : ByteArray} {st : Int} (hb : Blk W G 58 (((put (put zeros16 0 g) 10 s).setIfInBounds 14 (.int .u8 st)).setIfInBounds 15 (.int .u8 1))) (h : g.size ≤ 10) (h2 : s.size ≤ 4) (h3 : 0 ≤ st) (h4 : st ≤ 2) :
    Blk W G 58 ((idL g s st).map fun b => Value.int .u8 (b.toNat : Int)).toArray ∧ (idL g s st).length = 16 := by
  refine ⟨id_cells g s st h h2 h3 h4 ▸ hb, ?_⟩
  unfold idL
  have e1 : g.data.toList.length = g.size := rfl
  have e2 : s.data.toList.length = s.size := rfl
  simp only [List.length_append, List.length_replicate, e1, e2, List.length_cons, List.length_nil]
  omega
theorem id_text {W : World} {G : Nat} {l : List UInt8} (h : Blk W G 58 (l.map fun b => Value.int .u8 (b.toNat : Int)).toArray ∧ l.length = 16) : (convert 59 9 (.slice (some ⟨G, 0, none⟩) 16 16)).run Tryd.prog W = .ok (.string ⟨l.toArray⟩) W := by
  have e := run_convert_bytes_arg (P := Tryd.prog) W 59 5 Tryd.underlying59 Tryd.underlying5 G 0 16 16 (l.map fun b => (b.toNat : Int)) (by simp [h.2]) (fun i hi => by
    rw [Nat.zero_add, h.1.cell i]
    simp [List.getD_eq_getElem?_getD, h.2, hi]) 9 Tryd.underlying9
  rw [e]
  unfold strOfNums
  rw [List.map_map, show ((fun n : Int => UInt8.ofNat n.toNat) ∘ fun b : UInt8 => (b.toNat : Int)) = id from funext fun b => by simp, List.map_id]
set_option maxRecDepth 100000 in
set_option maxHeartbeats 4000000 in
theorem id_yes (g s : ByteArray) (st : Int) (w : World) (hg : g.size ≤ 9223372036854775807) (hs : s.size ≤ 9223372036854775807) (h : isPlace g s st = true) :
    Calls Tryd.prog 30 #[.agg #[.string g, .string s, .int .i64 st]] w fun e w' => e = .returned (.tuple #[.agg #[.int .u64 (low (idText g s st) 8 8 : Nat), .int .u64 (low (idText g s st) 0 8 : Nat)], .int .i64 0]) ∧ Below w.heap.size w w' := by
  have HT := fun w => good_is g s st true w hg hs h
  obtain ⟨b1, b2, b3, b4⟩ := plc_bounds h
  have Ba := Blk.new w 39 #[.string g, .string s, .int .i64 st]
  have Br : Blk ((w.alloc (.cells #[.string g, .string s, .int .i64 st] 39)).alloc (.cells #[.int .u64 0, .int .u64 0] 24)) (w.heap.size + 1) 24 #[.int .u64 0, .int .u64 0] := by
    have := Blk.new (w.alloc (.cells #[.string g, .string s, .int .i64 st] 39)) 24 #[.int .u64 0, .int .u64 0]
    simpa using this
  clear h
  go_enter Tryd.func30, Tryd.ntmps30
  go_wp2_with fail
  refine (HT _).mono ?_
  rintro e w1 ⟨rfl, hb1⟩
  have Ba1 := Blk.carry (Ba.alloc _) hb1
  have Br1 := Blk.carry Br hb1
  have hB := below_on (below_al (below_al (Below.refl _ w) (.cells #[.string g, .string s, .int .i64 st] 39)) (.cells #[.int .u64 0, .int .u64 0] 24)) hb1
  have la := Ba1.lt
  have lr := Br1.lt
  go_wp2_with fail
  have Bz : Blk (w1.alloc (.cells zeros16 58)) w1.heap.size 58 zeros16 := Blk.new _ _ _
  have Ba2 := Ba1.alloc (.cells zeros16 58)
  have Br2 := Br1.alloc (.cells zeros16 58)
  have hB2 := below_al hB (.cells zeros16 58)
  unfold zeros16 at Bz Ba2 Br2 hB2
  generalize (w1.alloc (.cells #[.int .u8 0, .int .u8 0, .int .u8 0, .int .u8 0, .int .u8 0, .int .u8 0, .int .u8 0, .int .u8 0, .int .u8 0, .int .u8 0, .int .u8 0, .int .u8 0, .int .u8 0, .int .u8 0, .int .u8 0, .int .u8 0] 58)) = W at *
  generalize w1.heap.size = G at *
  clear Ba1 Br1 hB hb1 HT Ba Br
  obtain ⟨c0, c1, c2⟩ := plc_cells Ba2
  have hcp := copy_run Bz.drew 0 10 g b1 (by show 0 + g.size ≤ 16; omega)
  have HZ := Lib.hid (And.intro Bz (And.intro Ba2 (And.intro Br2 hB2)))
  clear Bz Ba2 Br2 hB2
  go_region
  have Bz := HZ.out.1.drew.row (new := put zeros16 0 g)
  have Ba := (HZ.out.2.1.drew).rowFar (g := G) (new := put zeros16 0 g) (by omega)
  have Br := (HZ.out.2.2.1.drew).rowFar (g := G) (new := put zeros16 0 g) (by omega)
  have hB := below_row (g := G) (new := put zeros16 0 g) (below_dr HZ.out.2.2.2) (by omega)
  clear c0 c1 c2 hcp HZ
  go_wp2_with fail
  unfold zeros16 at Bz Ba Br hB
  generalize (W.drew.setRow G (put #[.int .u8 0, .int .u8 0, .int .u8 0, .int .u8 0, .int .u8 0, .int .u8 0, .int .u8 0, .int .u8 0, .int .u8 0, .int .u8 0, .int .u8 0, .int .u8 0, .int .u8 0, .int .u8 0, .int .u8 0, .int .u8 0] 0 g)) = W2 at *
  have Bz2 : Blk W2 G 58 (put zeros16 0 g) := Bz
  clear Bz
  obtain ⟨c0, c1, c2⟩ := plc_cells Ba
  have hz1 : (put zeros16 0 g).size = 16 := put_size zeros16 0 g (by show 0 + g.size ≤ 16; omega)
  have hcp := copy_run Bz2.drew 10 4 s b2 (by rw [hz1]; omega)
  have HZ := Lib.hid (And.intro Bz2 (And.intro Ba (And.intro Br hB)))
  clear Bz2 Ba Br hB
  go_region
  have Bz := HZ.out.1.drew.row (new := put (put zeros16 0 g) 10 s)
  have Ba := (HZ.out.2.1.drew).rowFar (g := G) (new := put (put zeros16 0 g) 10 s) (by omega)
  have Br := (HZ.out.2.2.1.drew).rowFar (g := G) (new := put (put zeros16 0 g) 10 s) (by omega)
  have hB := below_row (g := G) (new := put (put zeros16 0 g) 10 s) (below_dr HZ.out.2.2.2) (by omega)
  have hz2 : (put (put zeros16 0 g) 10 s).size = 16 := by rw [put_size _ 10 s (by rw [hz1]; omega), hz1]
  clear c0 c1 c2 hcp HZ hz1
  generalize (W2.drew.setRow G (put (put zeros16 0 g) 10 s)) = W3 at *
  obtain ⟨c0, c1, c2⟩ := plc_cells Ba
  obtain ⟨v14, h14⟩ : ∃ v, (put (put zeros16 0 g) 10 s)[14]? = some v := ⟨_, Array.getElem?_eq_getElem (by rw [hz2]; omega)⟩
  obtain ⟨v15, h15⟩ : ∃ v, (put (put zeros16 0 g) 10 s)[15]? = some v := ⟨_, Array.getElem?_eq_getElem (by rw [hz2]; omega)⟩
  have d14 := (Bz.cell 14).trans h14
  have d15 := (Bz.cell 15).trans h15
  have f14 := Bz.frozen 14
  have f15 := Bz.frozen 15
  have lG := Bz.lt
  have hst : IntKind.u8.wrap st = st := IntWalk.u8_in _ (by omega)
  have hrow := id_row ((Bz.set_ 14 (.int .u8 st)).set_ 15 (.int .u8 1)) b1 b2 b3 b4
  have hsz : 16 ≤ (⟨(idL g s st).toArray⟩ : ByteArray).size := by show 16 ≤ (idL g s st).toArray.size; rw [List.size_toArray, hrow.2]; omega
  have HSZ := Lib.hid hsz
  clear hrow hsz
  have hcv := id_text (id_row ((Bz.set_ 14 (.int .u8 st)).set_ 15 (.int .u8 1)) b1 b2 b3 b4)
  have HZ := Lib.hid (And.intro ((Bz.set_ 14 (.int .u8 st)).set_ 15 (.int .u8 1)) (And.intro Ba (And.intro Br hB)))
  clear Bz Ba Br hB h14 h15 hz2
  go_wp2_with fail
  have Ba6 := (HZ.out.2.1.far (p := ⟨G, 14, none⟩) (by simp; omega) (.int .u8 st)).far (p := ⟨G, 15, none⟩) (by simp; omega) (.int .u8 1)
  have Br6 := (HZ.out.2.2.1.far (p := ⟨G, 14, none⟩) (by simp; omega) (.int .u8 st)).far (p := ⟨G, 15, none⟩) (by simp; omega) (.int .u8 1)
  have hB6 := below_set (i := 15) (v := .int .u8 1) (below_set (i := 14) (v := .int .u8 st) HZ.out.2.2.2 (show w.heap.size ≤ G by omega)) (show w.heap.size ≤ G by omega)
  refine (from_yes _ _ HSZ.out).mono ?_
  rintro e w7 ⟨rfl, hb7⟩
  have Br7 := Blk.carry Br6 hb7
  have hB7 := below_on hB6 hb7
  clear c0 c1 c2 hcv HZ Ba6 Br6 hB6 d14 d15 f14 f15 hb7
  have r0 := cell_of0 Br7
  have r1 := cell_of1 Br7
  have f0 := Br7.frozen 0
  have f1 := Br7.frozen 1
  have lr7 := Br7.lt
  have e1 : low (⟨(idL g s st).toArray⟩ : ByteArray) 8 8 = low (idText g s st) 8 8 := rfl
  have e2 : low (⟨(idL g s st).toArray⟩ : ByteArray) 0 8 = low (idText g s st) 0 8 := rfl
  rw [e1, e2]
  go_wp2
  have Bf := ((Br7.set_ 0 (.int .u64 (low (idText g s st) 8 8 : Nat))).set_ 1 (.int .u64 (low (idText g s st) 0 8 : Nat))).alloc (.cells #[.int .u64 (low (idText g s st) 8 8 : Nat), .int .u64 (low (idText g s st) 0 8 : Nat)] 24)
  have q0 := cell_of0 Bf
  have q1 := cell_of1 Bf
  exact bodyPost_ret (v := .tuple #[.agg #[.int .u64 (low (idText g s st) 8 8 : Nat), .int .u64 (low (idText g s st) 0 8 : Nat)], .int .i64 0]) (by simp [results, Tryd.results30, go_sem, q0, q1]) rfl ⟨rfl, by repeat (with_reducible first | exact Below.refl _ _ | assumption | refine below_al ?_ _ | refine below_set ?_ (by omega) | refine below_dr ?_)⟩
end Go.Proofs.YtjjlfkbgieloeaaDoor
