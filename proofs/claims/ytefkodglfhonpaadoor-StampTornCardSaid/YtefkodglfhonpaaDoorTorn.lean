/- The walk of the law StampTorn. Conditions: those of its row. -/
import Derived.Test.YtefkodglfhonpaaDoorSWalk
namespace Go.Proofs.YtefkodglfhonpaaDoor
open Go.RowKit Go.PlainAid
set_option linter.unusedVariables false
attribute [local go_sem ↓] Go.wp_at_zero Go.wp_at_succ
theorem cut_is (cut : Int) : ∃ k : Nat, k < 129 ∧ wrap64 ((IntKind.u64.wrap cut).tmod 129) = k := by
  have h := IntKind.wrap_u64 cut
  have h1 : 0 ≤ IntKind.u64.wrap cut := by omega
  have e : (IntKind.u64.wrap cut).tmod 129 = IntKind.u64.wrap cut % 129 := Int.tmod_eq_emod_of_nonneg h1
  rw [e, ← Go.PlainAid.i64_is, IntKind.wrap_i64]
  exact ⟨((IntKind.u64.wrap cut) % 129).toNat, by omega, by omega⟩
/-- both leaves lie where they were laid -/
structure TwoL (w0 : World) (n i : Int) (d : ByteArray) (m j : Int) (c : ByteArray) (w : World) : Prop where
  a : Blk w w0.heap.size 24 #[.int .i64 n, .int .i64 i, .string d]
  b : Blk w (w0.heap.size + 1) 24 #[.int .i64 m, .int .i64 j, .string c]
  bel : Below w0.heap.size w0 w
section
variable {w0 w w' : World} {n i : Int} {d : ByteArray} {m j : Int} {c : ByteArray}
theorem TwoL.next (hb : Below w.heap.size w w') (h : TwoL w0 n i d m j c w) : TwoL w0 n i d m j c w' := ⟨h.a.below hb h.a.lt, h.b.below hb h.b.lt, below_on h.bel hb⟩
theorem TwoL.drew (h : TwoL w0 n i d m j c w) : TwoL w0 n i d m j c w.drew := ⟨h.a.drew, h.b.drew, h.bel.drew⟩
theorem TwoL.alloc (h : TwoL w0 n i d m j c w) (o : Obj) : TwoL w0 n i d m j c (w.alloc o) := ⟨h.a.alloc o, h.b.alloc o, below_al h.bel o⟩
theorem TwoL.cells (h : TwoL w0 n i d m j c w) : w.cell? ⟨w0.heap.size, 0, none⟩ = some (.int .i64 n) ∧ w.cell? ⟨w0.heap.size, 1, none⟩ = some (.int .i64 i) ∧ w.cell? ⟨w0.heap.size, 2, none⟩ = some (.string d) ∧ w.cell? ⟨w0.heap.size + 1, 0, none⟩ = some (.int .i64 m) ∧ w.cell? ⟨w0.heap.size + 1, 1, none⟩ = some (.int .i64 j) ∧ w.cell? ⟨w0.heap.size + 1, 2, none⟩ = some (.string c) := ⟨h.a.cell 0, h.a.cell 1, h.a.cell 2, h.b.cell 0, h.b.cell 1, h.b.cell 2⟩
theorem TwoL.new (w : World) (n i : Int) (d : ByteArray) (m j : Int) (c : ByteArray) : TwoL w n i d m j c ((w.alloc (.cells #[.int .i64 n, .int .i64 i, .string d] 24)).alloc (.cells #[.int .i64 m, .int .i64 j, .string c] 24)) := by
  refine ⟨(Blk.new _ _ _).alloc _, ?_, below_al (below_al (Below.refl _ _) _) _⟩
  have := Blk.new (w.alloc (.cells #[.int .i64 n, .int .i64 i, .string d] 24)) 24 #[.int .i64 m, .int .i64 j, .string c]
  simpa using this
end
set_option maxRecDepth 100000 in
set_option maxHeartbeats 4000000 in
theorem torn_a (n i : Int) (d : ByteArray) (m j : Int) (c : ByteArray) (cut : Int) (w : World) (HG : ∀ w, Calls Tryd.prog 8 #[.int .i64 n, .int .i64 i, .string d] w fun e w' => e = .returned (.bool false) ∧ w = w') :
    Calls Tryd.prog 4 #[.agg #[.int .i64 n, .int .i64 i, .string d], .agg #[.int .i64 m, .int .i64 j, .string c], .int .i64 cut] w fun e w' => e = .returned (.bool true) ∧ Below w.heap.size w w' := by
  have T0 := TwoL.new w n i d m j c
  go_enter Tryd.func4, Tryd.ntmps4
  go_wp2_with fail
  refine (alive_any _).mono ?_
  rintro e w1 ⟨rfl, hb1⟩
  have T1 := T0.next hb1
  obtain ⟨c0, c1, c2, c3, c4, c5⟩ := T1.cells
  clear T0 hb1
  go_wp2_with fail
  refine (HG _).mono ?_
  rintro e w2 ⟨rfl, rfl⟩
  go_wp2
  go_ret
  exact ⟨rfl, T1.bel⟩
set_option maxRecDepth 100000 in
set_option maxHeartbeats 4000000 in
theorem torn_b (n i : Int) (d : ByteArray) (m j : Int) (c : ByteArray) (cut : Int) (w : World) (HG : ∀ w, Calls Tryd.prog 8 #[.int .i64 n, .int .i64 i, .string d] w fun e w' => e = .returned (.bool true) ∧ w = w') (HH : ∀ w, Calls Tryd.prog 8 #[.int .i64 m, .int .i64 j, .string c] w fun e w' => e = .returned (.bool false) ∧ w = w') :
    Calls Tryd.prog 4 #[.agg #[.int .i64 n, .int .i64 i, .string d], .agg #[.int .i64 m, .int .i64 j, .string c], .int .i64 cut] w fun e w' => e = .returned (.bool true) ∧ Below w.heap.size w w' := by
  have T0 := TwoL.new w n i d m j c
  go_enter Tryd.func4, Tryd.ntmps4
  go_wp2_with fail
  refine (alive_any _).mono ?_
  rintro e w1 ⟨rfl, hb1⟩
  have T1 := T0.next hb1
  obtain ⟨c0, c1, c2, c3, c4, c5⟩ := T1.cells
  clear T0 hb1
  go_wp2_with fail
  refine (HG _).mono ?_
  rintro e w2 ⟨rfl, rfl⟩
  go_wp2_with fail
  refine (HH _).mono ?_
  rintro e w2 ⟨rfl, rfl⟩
  go_wp2
  go_ret
  exact ⟨rfl, T1.bel⟩
set_option maxRecDepth 100000 in
set_option maxHeartbeats 4000000 in
theorem torn_c (n i : Int) (d : ByteArray) (j : Int) (c : ByteArray) (cut : Int) (w : World) (HG : ∀ w, Calls Tryd.prog 8 #[.int .i64 n, .int .i64 i, .string d] w fun e w' => e = .returned (.bool true) ∧ w = w') (HH : ∀ w, Calls Tryd.prog 8 #[.int .i64 n, .int .i64 j, .string c] w fun e w' => e = .returned (.bool true) ∧ w = w') :
    Calls Tryd.prog 4 #[.agg #[.int .i64 n, .int .i64 i, .string d], .agg #[.int .i64 n, .int .i64 j, .string c], .int .i64 cut] w fun e w' => e = .returned (.bool true) ∧ Below w.heap.size w w' := by
  have T0 := TwoL.new w n i d n j c
  go_enter Tryd.func4, Tryd.ntmps4
  go_wp2_with fail
  refine (alive_any _).mono ?_
  rintro e w1 ⟨rfl, hb1⟩
  have T1 := T0.next hb1
  obtain ⟨c0, c1, c2, c3, c4, c5⟩ := T1.cells
  clear T0 hb1
  go_wp2_with fail
  refine (HG _).mono ?_
  rintro e w2 ⟨rfl, rfl⟩
  go_wp2_with fail
  refine (HH _).mono ?_
  rintro e w2 ⟨rfl, rfl⟩
  go_wp2
  go_ret
  exact ⟨rfl, T1.bel⟩
set_option maxRecDepth 100000 in
set_option maxHeartbeats 4000000 in
theorem torn_dx (n i : Int) (d : ByteArray) (m j : Int) (c : ByteArray) (cut : Int) (k : Nat) (tx ty : ByteArray) (w : World) (HG : ∀ w, Calls Tryd.prog 8 #[.int .i64 n, .int .i64 i, .string d] w fun e w' => e = .returned (.bool true) ∧ w = w') (HH : ∀ w, Calls Tryd.prog 8 #[.int .i64 m, .int .i64 j, .string c] w fun e w' => e = .returned (.bool true) ∧ w = w') (hne : (n == m) = false)
    (HA : ∀ w, Calls Tryd.prog 9 #[.int .i64 n, .int .i64 i, .string d] w fun e w' => e = .returned (.string tx) ∧ Below w.heap.size w w') (HB : ∀ w, Calls Tryd.prog 9 #[.int .i64 m, .int .i64 j, .string c] w fun e w' => e = .returned (.string ty) ∧ Below w.heap.size w w') (hcut : wrap64 ((IntKind.u64.wrap cut).tmod 129) = k) (hk : k ≤ 128) (HR : ∀ w, Calls Tryd.prog 7 #[.string (tx.extract 0 k ++ ty.extract k ty.size)] w fun e w' => e = .returned (.tuple #[.agg #[.int .i64 0, .int .i64 0, .string ⟨#[]⟩], .bool false]) ∧ Below w.heap.size w w') (hx : tx.size = 128) (hy : ty.size = 128) :
    Calls Tryd.prog 4 #[.agg #[.int .i64 n, .int .i64 i, .string d], .agg #[.int .i64 m, .int .i64 j, .string c], .int .i64 cut] w fun e w' => e = .returned (.bool true) ∧ Below w.heap.size w w' := by
  have T0 := TwoL.new w n i d m j c
  go_enter Tryd.func4, Tryd.ntmps4
  go_wp2_with fail
  refine (alive_any _).mono ?_
  rintro e w1 ⟨rfl, hb1⟩
  have T1 := T0.next hb1
  obtain ⟨c0, c1, c2, c3, c4, c5⟩ := T1.cells
  clear T0 hb1
  go_wp2_with fail
  refine (HG _).mono ?_
  rintro e w2 ⟨rfl, rfl⟩
  go_wp2_with fail
  refine (HH _).mono ?_
  rintro e w2 ⟨rfl, rfl⟩
  go_wp2_with fail
  clear c0 c1 c2 c3 c4 c5
  have T2 := T1.drew
  go_region_held3 (fun w' => w'.cell? ⟨w.heap.size, 0, none⟩ = some (.int .i64 n) ∧ w'.cell? ⟨w.heap.size, 1, none⟩ = some (.int .i64 i) ∧ w'.cell? ⟨w.heap.size, 2, none⟩ = some (.string d) ∧ w'.cell? ⟨w.heap.size + 1, 0, none⟩ = some (.int .i64 m) ∧ w'.cell? ⟨w.heap.size + 1, 1, none⟩ = some (.int .i64 j) ∧ w'.cell? ⟨w.heap.size + 1, 2, none⟩ = some (.string c))
    (first | exact T2.cells | exact (TwoL.cells (by assumption)) | go_keep)
    (first | (go_at_call 9; (with_reducible refine (HA _).mono ?_); rintro e w5 ⟨rfl, hb5⟩; have T5 := TwoL.next hb5 (by assumption)) | (go_at_call 9; (with_reducible refine (HB _).mono ?_); rintro e w6 ⟨rfl, hb6⟩; have T6 := TwoL.next hb6 (by assumption)))
  have T6x : TwoL w n i d m j c _ := T6
  clear T1 T2 T5
  have k0 : (0 : Int) ≤ (k : Int) := by omega
  have k1 : (k : Int) ≤ (tx.size : Int) := by omega
  have k2 : (k : Int) ≤ (ty.size : Int) := by omega
  have k3 : k ≤ tx.size := by omega
  have k4 : k ≤ ty.size := by omega
  have z1 : (tx.extract 0 k).size = k := by rw [ByteArray.size_extract]; omega
  have z2 : (ty.extract k ty.size).size = 128 - k := by rw [ByteArray.size_extract]; omega
  have z3 : (tx.extract 0 k).size + (ty.extract k ty.size).size = 128 := by omega
  have hne' : (m == n) = false := by simp at hne ⊢; omega
  have HS := Lib.hid (And.intro hx hy)
  clear hx hy z3
  go_wp2_with fail
  rw [hcut]
  (go_region_with (first | (go_at_call 7; (with_reducible refine (HR _).mono ?_); rintro e w7 ⟨rfl, hb7⟩; first | (have T7 := TwoL.next hb7 (T6x.drew); have Bz7 : True := trivial) | (have T7 := TwoL.next hb7 ((T6x.alloc _).drew); have Bz7 : Blk w7 w6.heap.size 24 #[.int .i64 0, .int .i64 0, .string ⟨#[]⟩] := Blk.below ((Blk.new w6 24 #[.int .i64 0, .int .i64 0, .string ⟨#[]⟩]).drew) hb7 (by simp); obtain ⟨z0, z1, z2⟩ := leaf_cells Bz7; have g0 := Bz7.frozen 0; have g1 := Bz7.frozen 1; have g2 := Bz7.frozen 2; have lz := Bz7.lt))))
  all_goals
    obtain ⟨c0, c1, c2, c3, c4, c5⟩ := T7.cells
    have la := T7.a.lt
    have lb := T7.b.lt
    have la6 := T6x.a.lt
    have lb6 := T6x.b.lt
    have hB7 := T7.bel
    go_wp2
    go_ret
    exact ⟨rfl, by repeat (with_reducible first | exact Below.refl _ _ | assumption | refine below_al ?_ _ | refine below_set ?_ (by omega) | refine below_drewN ?_ | refine below_dr ?_)⟩
set_option maxRecDepth 100000 in
set_option maxHeartbeats 4000000 in
theorem torn_ex (n i : Int) (d : ByteArray) (m j : Int) (c : ByteArray) (cut : Int) (k : Nat) (tx ty : ByteArray) (w : World) (HG : ∀ w, Calls Tryd.prog 8 #[.int .i64 n, .int .i64 i, .string d] w fun e w' => e = .returned (.bool true) ∧ w = w') (HH : ∀ w, Calls Tryd.prog 8 #[.int .i64 m, .int .i64 j, .string c] w fun e w' => e = .returned (.bool true) ∧ w = w') (hne : (n == m) = false)
    (HA : ∀ w, Calls Tryd.prog 9 #[.int .i64 n, .int .i64 i, .string d] w fun e w' => e = .returned (.string tx) ∧ Below w.heap.size w w') (HB : ∀ w, Calls Tryd.prog 9 #[.int .i64 m, .int .i64 j, .string c] w fun e w' => e = .returned (.string ty) ∧ Below w.heap.size w w') (hcut : wrap64 ((IntKind.u64.wrap cut).tmod 129) = k) (hk : k ≤ 128) (HR : ∀ w, Calls Tryd.prog 7 #[.string (tx.extract 0 k ++ ty.extract k ty.size)] w fun e w' => e = .returned (.tuple #[.agg #[.int .i64 n, .int .i64 i, .string d], .bool true]) ∧ Below w.heap.size w w') (hx : tx.size = 128) (hy : ty.size = 128) :
    Calls Tryd.prog 4 #[.agg #[.int .i64 n, .int .i64 i, .string d], .agg #[.int .i64 m, .int .i64 j, .string c], .int .i64 cut] w fun e w' => e = .returned (.bool true) ∧ Below w.heap.size w w' := by
  have T0 := TwoL.new w n i d m j c
  go_enter Tryd.func4, Tryd.ntmps4
  go_wp2_with fail
  refine (alive_any _).mono ?_
  rintro e w1 ⟨rfl, hb1⟩
  have T1 := T0.next hb1
  obtain ⟨c0, c1, c2, c3, c4, c5⟩ := T1.cells
  clear T0 hb1
  go_wp2_with fail
  refine (HG _).mono ?_
  rintro e w2 ⟨rfl, rfl⟩
  go_wp2_with fail
  refine (HH _).mono ?_
  rintro e w2 ⟨rfl, rfl⟩
  go_wp2_with fail
  clear c0 c1 c2 c3 c4 c5
  have T2 := T1.drew
  go_region_held3 (fun w' => w'.cell? ⟨w.heap.size, 0, none⟩ = some (.int .i64 n) ∧ w'.cell? ⟨w.heap.size, 1, none⟩ = some (.int .i64 i) ∧ w'.cell? ⟨w.heap.size, 2, none⟩ = some (.string d) ∧ w'.cell? ⟨w.heap.size + 1, 0, none⟩ = some (.int .i64 m) ∧ w'.cell? ⟨w.heap.size + 1, 1, none⟩ = some (.int .i64 j) ∧ w'.cell? ⟨w.heap.size + 1, 2, none⟩ = some (.string c))
    (first | exact T2.cells | exact (TwoL.cells (by assumption)) | go_keep)
    (first | (go_at_call 9; (with_reducible refine (HA _).mono ?_); rintro e w5 ⟨rfl, hb5⟩; have T5 := TwoL.next hb5 (by assumption)) | (go_at_call 9; (with_reducible refine (HB _).mono ?_); rintro e w6 ⟨rfl, hb6⟩; have T6 := TwoL.next hb6 (by assumption)))
  have T6x : TwoL w n i d m j c _ := T6
  clear T1 T2 T5
  have k0 : (0 : Int) ≤ (k : Int) := by omega
  have k1 : (k : Int) ≤ (tx.size : Int) := by omega
  have k2 : (k : Int) ≤ (ty.size : Int) := by omega
  have k3 : k ≤ tx.size := by omega
  have k4 : k ≤ ty.size := by omega
  have z1 : (tx.extract 0 k).size = k := by rw [ByteArray.size_extract]; omega
  have z2 : (ty.extract k ty.size).size = 128 - k := by rw [ByteArray.size_extract]; omega
  have z3 : (tx.extract 0 k).size + (ty.extract k ty.size).size = 128 := by omega
  have hne' : (m == n) = false := by simp at hne ⊢; omega
  have HS := Lib.hid (And.intro hx hy)
  clear hx hy z3
  go_wp2_with fail
  rw [hcut]
  (go_region_with (first | (go_at_call 7; (with_reducible refine (HR _).mono ?_); rintro e w7 ⟨rfl, hb7⟩; first | (have T7 := TwoL.next hb7 (T6x.drew); have Bz7 : True := trivial) | (have T7 := TwoL.next hb7 ((T6x.alloc _).drew); have Bz7 : Blk w7 w6.heap.size 24 #[.int .i64 0, .int .i64 0, .string ⟨#[]⟩] := Blk.below ((Blk.new w6 24 #[.int .i64 0, .int .i64 0, .string ⟨#[]⟩]).drew) hb7 (by simp); obtain ⟨z0, z1, z2⟩ := leaf_cells Bz7; have g0 := Bz7.frozen 0; have g1 := Bz7.frozen 1; have g2 := Bz7.frozen 2; have lz := Bz7.lt))))
  all_goals
    obtain ⟨c0, c1, c2, c3, c4, c5⟩ := T7.cells
    have la := T7.a.lt
    have lb := T7.b.lt
    have la6 := T6x.a.lt
    have lb6 := T6x.b.lt
    have hB7 := T7.bel
    go_wp2
    go_ret
    exact ⟨rfl, by repeat (with_reducible first | exact Below.refl _ _ | assumption | refine below_al ?_ _ | refine below_set ?_ (by omega) | refine below_drewN ?_ | refine below_dr ?_)⟩
set_option maxRecDepth 100000 in
set_option maxHeartbeats 4000000 in
theorem torn_fx (n i : Int) (d : ByteArray) (m j : Int) (c : ByteArray) (cut : Int) (k : Nat) (tx ty : ByteArray) (w : World) (HG : ∀ w, Calls Tryd.prog 8 #[.int .i64 n, .int .i64 i, .string d] w fun e w' => e = .returned (.bool true) ∧ w = w') (HH : ∀ w, Calls Tryd.prog 8 #[.int .i64 m, .int .i64 j, .string c] w fun e w' => e = .returned (.bool true) ∧ w = w') (hne : (n == m) = false)
    (HA : ∀ w, Calls Tryd.prog 9 #[.int .i64 n, .int .i64 i, .string d] w fun e w' => e = .returned (.string tx) ∧ Below w.heap.size w w') (HB : ∀ w, Calls Tryd.prog 9 #[.int .i64 m, .int .i64 j, .string c] w fun e w' => e = .returned (.string ty) ∧ Below w.heap.size w w') (hcut : wrap64 ((IntKind.u64.wrap cut).tmod 129) = k) (hk : k ≤ 128) (HR : ∀ w, Calls Tryd.prog 7 #[.string (tx.extract 0 k ++ ty.extract k ty.size)] w fun e w' => e = .returned (.tuple #[.agg #[.int .i64 m, .int .i64 j, .string c], .bool true]) ∧ Below w.heap.size w w') (hx : tx.size = 128) (hy : ty.size = 128) :
    Calls Tryd.prog 4 #[.agg #[.int .i64 n, .int .i64 i, .string d], .agg #[.int .i64 m, .int .i64 j, .string c], .int .i64 cut] w fun e w' => e = .returned (.bool true) ∧ Below w.heap.size w w' := by
  have T0 := TwoL.new w n i d m j c
  go_enter Tryd.func4, Tryd.ntmps4
  go_wp2_with fail
  refine (alive_any _).mono ?_
  rintro e w1 ⟨rfl, hb1⟩
  have T1 := T0.next hb1
  obtain ⟨c0, c1, c2, c3, c4, c5⟩ := T1.cells
  clear T0 hb1
  go_wp2_with fail
  refine (HG _).mono ?_
  rintro e w2 ⟨rfl, rfl⟩
  go_wp2_with fail
  refine (HH _).mono ?_
  rintro e w2 ⟨rfl, rfl⟩
  go_wp2_with fail
  clear c0 c1 c2 c3 c4 c5
  have T2 := T1.drew
  go_region_held3 (fun w' => w'.cell? ⟨w.heap.size, 0, none⟩ = some (.int .i64 n) ∧ w'.cell? ⟨w.heap.size, 1, none⟩ = some (.int .i64 i) ∧ w'.cell? ⟨w.heap.size, 2, none⟩ = some (.string d) ∧ w'.cell? ⟨w.heap.size + 1, 0, none⟩ = some (.int .i64 m) ∧ w'.cell? ⟨w.heap.size + 1, 1, none⟩ = some (.int .i64 j) ∧ w'.cell? ⟨w.heap.size + 1, 2, none⟩ = some (.string c))
    (first | exact T2.cells | exact (TwoL.cells (by assumption)) | go_keep)
    (first | (go_at_call 9; (with_reducible refine (HA _).mono ?_); rintro e w5 ⟨rfl, hb5⟩; have T5 := TwoL.next hb5 (by assumption)) | (go_at_call 9; (with_reducible refine (HB _).mono ?_); rintro e w6 ⟨rfl, hb6⟩; have T6 := TwoL.next hb6 (by assumption)))
  have T6x : TwoL w n i d m j c _ := T6
  clear T1 T2 T5
  have k0 : (0 : Int) ≤ (k : Int) := by omega
  have k1 : (k : Int) ≤ (tx.size : Int) := by omega
  have k2 : (k : Int) ≤ (ty.size : Int) := by omega
  have k3 : k ≤ tx.size := by omega
  have k4 : k ≤ ty.size := by omega
  have z1 : (tx.extract 0 k).size = k := by rw [ByteArray.size_extract]; omega
  have z2 : (ty.extract k ty.size).size = 128 - k := by rw [ByteArray.size_extract]; omega
  have z3 : (tx.extract 0 k).size + (ty.extract k ty.size).size = 128 := by omega
  have hne' : (m == n) = false := by simp at hne ⊢; omega
  have HS := Lib.hid (And.intro hx hy)
  clear hx hy z3
  go_wp2_with fail
  rw [hcut]
  (go_region_with (first | (go_at_call 7; (with_reducible refine (HR _).mono ?_); rintro e w7 ⟨rfl, hb7⟩; first | (have T7 := TwoL.next hb7 (T6x.drew); have Bz7 : True := trivial) | (have T7 := TwoL.next hb7 ((T6x.alloc _).drew); have Bz7 : Blk w7 w6.heap.size 24 #[.int .i64 0, .int .i64 0, .string ⟨#[]⟩] := Blk.below ((Blk.new w6 24 #[.int .i64 0, .int .i64 0, .string ⟨#[]⟩]).drew) hb7 (by simp); obtain ⟨z0, z1, z2⟩ := leaf_cells Bz7; have g0 := Bz7.frozen 0; have g1 := Bz7.frozen 1; have g2 := Bz7.frozen 2; have lz := Bz7.lt))))
  all_goals
    obtain ⟨c0, c1, c2, c3, c4, c5⟩ := T7.cells
    have la := T7.a.lt
    have lb := T7.b.lt
    have la6 := T6x.a.lt
    have lb6 := T6x.b.lt
    have hB7 := T7.bel
    go_wp2
    go_ret
    exact ⟨rfl, by repeat (with_reducible first | exact Below.refl _ _ | assumption | refine below_al ?_ _ | refine below_set ?_ (by omega) | refine below_drewN ?_ | refine below_dr ?_)⟩
theorem walkStampTorn (n : Int) (_v0 : (Lit.int .i64 n).wf = true) (i : Int) (_v1 : (Lit.int .i64 i).wf = true) (d : ByteArray) (_v2 : d.size ≤ maxLen) (m : Int) (_v3 : (Lit.int .i64 m).wf = true) (j : Int) (_v4 : (Lit.int .i64 j).wf = true) (c : ByteArray) (_v5 : c.size ≤ maxLen) (cut : Int) (_v6 : (Lit.int .i64 cut).wf = true) (w : World) :
    Calls Tryd.prog 4 #[.agg #[.int .i64 n, .int .i64 i, .string d], .agg #[.int .i64 m, .int .i64 j, .string c], .int .i64 cut] w fun e w' => e = .returned (.bool true) ∧ Below w.heap.size w w' := by
  cases hg : isLeaf n i d
  · exact torn_a n i d m j c cut w (fun w => refgood_is n i d false hg w)
  · cases hh : isLeaf m j c
    · exact torn_b n i d m j c cut w (fun w => refgood_is n i d true hg w) (fun w => refgood_is m j c false hh w)
    · by_cases hnm : n = m
      · subst hnm
        exact torn_c n i d j c cut w (fun w => refgood_is n i d true hg w) (fun w => refgood_is n j c true hh w)
      · obtain ⟨p1, p2, p3, p4, p5⟩ := leaf_parts hg
        obtain ⟨q1, q2, q3, q4, q5⟩ := leaf_parts hh
        obtain ⟨n, rfl⟩ := Int.eq_ofNat_of_zero_le (show 0 ≤ n by omega)
        obtain ⟨i, rfl⟩ := Int.eq_ofNat_of_zero_le p3
        obtain ⟨m, rfl⟩ := Int.eq_ofNat_of_zero_le (show 0 ≤ m by omega)
        obtain ⟨j, rfl⟩ := Int.eq_ofNat_of_zero_le q3
        obtain ⟨k, hk, hcut⟩ := cut_is cut
        have HG := fun w => refgood_is n i d true hg w
        have HH := fun w => refgood_is m j c true hh w
        have HA := fun w => refenc n i d hg w
        have HB := fun w => refenc m j c hh w
        have hx : (SL (Pl.enc crc n i d.data.toList)).size = 128 := by rw [SL_size]; exact Pl.enc_length crc crc_length _ _ _ p5
        have hy : (SL (Pl.enc crc m j c.data.toList)).size = 128 := by rw [SL_size]; exact Pl.enc_length crc crc_length _ _ _ q5
        have hne : ((n : Int) == (m : Int)) = false := by simpa using hnm
        obtain ⟨tx, htx⟩ : ∃ tx, tx = SL (Pl.enc crc n i d.data.toList) := ⟨_, rfl⟩
        obtain ⟨ty, hty⟩ : ∃ ty, ty = SL (Pl.enc crc m j c.data.toList) := ⟨_, rfl⟩
        rw [← htx] at HA hx
        rw [← hty] at HB hy
        rcases sread_any (tx.extract 0 k ++ ty.extract k ty.size) with ⟨hr, _⟩ | ⟨n', i', d', hg', he, hr⟩
        · exact torn_dx n i d m j c cut k tx ty w HG HH hne HA HB hcut (by omega) hr hx hy
        · obtain ⟨r1, r2, r3, r4, r5⟩ := leaf_parts hg'
          have hL : (Pl.enc crc n i d.data.toList).take k ++ (Pl.enc crc m j c.data.toList).drop k = Pl.enc crc n' i' d'.data.toList := by
            have h := congrArg (fun b : ByteArray => b.data.toList) he
            rw [htx, hty] at h
            simp only [data_append, ext_take, ext_drop] at h
            simpa [SL] using h
          have b64 : (2 : Nat) ^ 64 = 18446744073709551616 := by decide
          have b16 : (2 : Nat) ^ 16 = 65536 := by decide
          rcases Pl.torn crc_length p5 q5 r5 (by omega) (by omega) (by omega) (by omega) hL with e | e
          · obtain ⟨e1, e2, e3⟩ := Pl.enc_inj (c := crc) r5 p5 (by omega) (by omega) (by omega) (by omega) e
            have ed : d' = d := ByteArray.ext (Array.toList_inj.1 e3)
            subst e1 e2 ed
            exact torn_ex _ _ _ m j c cut k tx ty w HG HH hne HA HB hcut (by omega) hr hx hy
          · obtain ⟨e1, e2, e3⟩ := Pl.enc_inj (c := crc) r5 q5 (by omega) (by omega) (by omega) (by omega) e
            have ed : d' = c := ByteArray.ext (Array.toList_inj.1 e3)
            subst e1 e2 ed
            exact torn_fx n i d _ _ _ cut k tx ty w HG HH hne HA HB hcut (by omega) hr hx hy
end Go.Proofs.YtefkodglfhonpaaDoor
