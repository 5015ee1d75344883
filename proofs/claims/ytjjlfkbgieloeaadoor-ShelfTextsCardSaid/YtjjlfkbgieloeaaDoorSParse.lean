/- The contract of shelf.Parse. Conditions: a text of at most 100 bytes; the library's variable holds some number. -/
import Derived.Test.YtjjlfkbgieloeaaDoorPlace
import Derived.Test.YtjjlfkbgieloeaaDoorLayc
namespace Go.Proofs.YtjjlfkbgieloeaaDoor
open Go.RowKit Go.PlainAid
/-- the library's variable holds some number -/
def MaxLenIs (m : Int) (w : World) : Prop := w.cell? ⟨3, 0, none⟩ = some (.int .i64 m)
theorem MaxLenIs.below {m : Int} {w w' : World} (h : MaxLenIs m w) (hb : Below w.heap.size w w') : MaxLenIs m w' := (hb.cell (p := ⟨3, 0, none⟩) (World.block_lt_of_cell? w _ h)).trans h
theorem MaxLenIs.alloc {m : Int} {w : World} (h : MaxLenIs m w) (o : Obj) : MaxLenIs m (w.alloc o) := h.below (below_al (Below.refl _ _) o)
theorem cut_call (s G S : ByteArray) (b : Bool) (m : Int) (w : World) (hs : s.size ≤ 100) (hm : MaxLenIs m w) (hG : G = ⟨(Lib.cut s.data.toList [64]).1.toArray⟩) (hS : S = ⟨(Lib.cut s.data.toList [64]).2.1.toArray⟩) (hb : b = (Lib.cut s.data.toList [64]).2.2) :
    Calls Tryd.prog 52 #[.string s, .string ⟨#[64]⟩] w fun e w' => e = .returned (.tuple #[.string G, .string S, .bool b]) ∧ Below w.heap.size w w' := by
  subst hG hS hb
  refine (Tryd.strings_Cut s ⟨#[64]⟩ m w (by omega) hm).mono fun e w' ⟨he, n, hn⟩ => ⟨he, ?_⟩
  rw [hn]
  exact ⟨rfl, rfl, rfl, Nat.le_refl _, fun _ _ => rfl⟩
set_option maxRecDepth 100000 in
theorem sparse_no (s G S : ByteArray) (st : Int) (b : Bool) (m : Int) (w : World) (hm : MaxLenIs m w) (HC : ∀ w, MaxLenIs m w → Calls Tryd.prog 52 #[.string s, .string ⟨#[64]⟩] w fun e w' => e = .returned (.tuple #[.string G, .string S, .bool b]) ∧ Below w.heap.size w w') (HG : ∀ w, Calls Tryd.prog 32 #[.agg #[.string G, .string S, .int .i64 st]] w fun e w' => e = .returned (.bool false) ∧ Below w.heap.size w w') :
    Calls Tryd.prog 39 #[.string s, .int .i64 st] w fun e w' => e = .returned (.tuple #[.agg #[.string ⟨#[]⟩, .string ⟨#[]⟩, .int .i64 0], .int .i64 4]) ∧ Below w.heap.size w w' := by
  have Br := Blk.new w 39 #[.string ⟨#[]⟩, .string ⟨#[]⟩, .int .i64 0]
  have HM := Lib.hid hm
  clear hm
  go_enter Tryd.func39, Tryd.ntmps39
  go_wp2_with fail
  refine (HC _ (HM.out.alloc _)).mono ?_
  rintro e w1 ⟨rfl, hb1⟩
  have Br1 := Blk.carry Br hb1
  have hB1 := below_on (below_al (Below.refl _ w) (.cells #[.string ⟨#[]⟩, .string ⟨#[]⟩, .int .i64 0] 39)) hb1
  have l1 := Br1.lt
  clear Br hb1
  go_wp2_with fail
  refine (HG _).mono ?_
  rintro e w2 ⟨rfl, hb2⟩
  have Br2 := Blk.carry (Br1.alloc _) hb2
  have hB2 := below_on (below_al hB1 (.cells #[.string G, .string S, .int .i64 st] 39)) hb2
  clear Br1 hB1 hb2
  obtain ⟨r0, r1, r2⟩ := plc_cells Br2
  have f0 := Br2.frozen 0
  have f1 := Br2.frozen 1
  have f2 := Br2.frozen 2
  have l2 := Br2.lt
  go_wp2
  have Bf := ((Br2.set_ 0 (.string ⟨#[]⟩)).set_ 1 (.string ⟨#[]⟩)).set_ 2 (.int .i64 0)
  obtain ⟨q0, q1, q2⟩ := plc_cells Bf
  exact bodyPost_ret (v := .tuple #[.agg #[.string ⟨#[]⟩, .string ⟨#[]⟩, .int .i64 0], .int .i64 4]) (by simp [results, Tryd.results39, go_sem, q0, q1, q2]) rfl ⟨rfl, by repeat (with_reducible first | exact Below.refl _ _ | assumption | refine below_al ?_ _ | refine below_set ?_ (by omega))⟩
set_option maxRecDepth 100000 in
theorem sparse_yes (s G S : ByteArray) (st : Int) (b : Bool) (m : Int) (w : World) (hm : MaxLenIs m w) (HC : ∀ w, MaxLenIs m w → Calls Tryd.prog 52 #[.string s, .string ⟨#[64]⟩] w fun e w' => e = .returned (.tuple #[.string G, .string S, .bool b]) ∧ Below w.heap.size w w') (HG : ∀ w, Calls Tryd.prog 32 #[.agg #[.string G, .string S, .int .i64 st]] w fun e w' => e = .returned (.bool true) ∧ Below w.heap.size w w') :
    Calls Tryd.prog 39 #[.string s, .int .i64 st] w fun e w' => e = .returned (.tuple #[.agg #[.string G, .string S, .int .i64 st], .int .i64 0]) ∧ Below w.heap.size w w' := by
  have Br := Blk.new w 39 #[.string ⟨#[]⟩, .string ⟨#[]⟩, .int .i64 0]
  have HM := Lib.hid hm
  clear hm
  go_enter Tryd.func39, Tryd.ntmps39
  go_wp2_with fail
  refine (HC _ (HM.out.alloc _)).mono ?_
  rintro e w1 ⟨rfl, hb1⟩
  have Br1 := Blk.carry Br hb1
  have hB1 := below_on (below_al (Below.refl _ w) (.cells #[.string ⟨#[]⟩, .string ⟨#[]⟩, .int .i64 0] 39)) hb1
  have l1 := Br1.lt
  have Bp : Blk (w1.alloc (.cells #[.string G, .string S, .int .i64 st] 39)) w1.heap.size 39 #[.string G, .string S, .int .i64 st] := Blk.new _ _ _
  clear Br hb1
  go_wp2_with fail
  refine (HG _).mono ?_
  rintro e w2 ⟨rfl, hb2⟩
  have Br2 := Blk.carry (Br1.alloc _) hb2
  have Bp2 := Blk.carry Bp hb2
  have hB2 := below_on (below_al hB1 (.cells #[.string G, .string S, .int .i64 st] 39)) hb2
  clear Br1 hB1 hb2 Bp
  obtain ⟨r0, r1, r2⟩ := plc_cells Br2
  have f0 := Br2.frozen 0
  have f1 := Br2.frozen 1
  have f2 := Br2.frozen 2
  have l2 := Br2.lt
  obtain ⟨p0, p1, p2⟩ := plc_cells Bp2
  have l3 := Bp2.lt
  go_wp2
  have Bf := ((Br2.set_ 0 (.string G)).set_ 1 (.string S)).set_ 2 (.int .i64 st)
  obtain ⟨q0, q1, q2⟩ := plc_cells Bf
  exact bodyPost_ret (v := .tuple #[.agg #[.string G, .string S, .int .i64 st], .int .i64 0]) (by simp [results, Tryd.results39, go_sem, q0, q1, q2]) rfl ⟨rfl, by repeat (with_reducible first | exact Below.refl _ _ | assumption | refine below_al ?_ _ | refine below_set ?_ (by omega))⟩
end Go.Proofs.YtjjlfkbgieloeaaDoor
