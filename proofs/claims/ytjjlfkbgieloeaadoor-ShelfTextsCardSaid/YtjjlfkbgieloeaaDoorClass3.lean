/- A drawn region walked once in a class of worlds: places. Conditions: none. -/
import Derived.Test.YtjjlfkbgieloeaaDoorClass2
import Derived.Test.YtjjlfkbgieloeaaDoorParse
namespace Go.Proofs.YtjjlfkbgieloeaaDoor
open Go.RowKit Go.BigFrame
theorem quiet_c24 {C : World → Prop} {o : Oper} {a : Act} {K : Act → Prop} (s : Operand) {g : Nat} {x y : Int} (hc : ∀ w, C w → Blk w g 24 #[.int .u64 x, .int .u64 y]) (ho : o.op = .load 24 s) (hs : a.eval s = .pointer (some ⟨g, 0, none⟩))
    (hk : K (a.put o.dst (.agg #[.int .u64 x, .int .u64 y]))) : o.quiet Tryd.prog a C K := by
  refine ⟨_, fun w hw => ?_, hk⟩
  have hb := hc w hw
  have c0 := cell_of0 hb
  have c1 := cell_of1 hb
  unfold Oper.quietAt execOp
  rw [ho]
  simp only [hs]
  go_simp
theorem quiet_c39 {C : World → Prop} {o : Oper} {a : Act} {K : Act → Prop} (s : Operand) {g : Nat} {x y : ByteArray} {z : Int} (hc : ∀ w, C w → Blk w g 39 #[.string x, .string y, .int .i64 z]) (ho : o.op = .load 39 s) (hs : a.eval s = .pointer (some ⟨g, 0, none⟩))
    (hk : K (a.put o.dst (.agg #[.string x, .string y, .int .i64 z]))) : o.quiet Tryd.prog a C K := by
  refine ⟨_, fun w hw => ?_, hk⟩
  have hb := hc w hw
  have c0 : w.cell? ⟨g, 0, none⟩ = some (.string x) := hb.cell 0
  have c1 : w.cell? ⟨g, 1, none⟩ = some (.string y) := hb.cell 1
  have c2 : w.cell? ⟨g, 2, none⟩ = some (.int .i64 z) := hb.cell 2
  unfold Oper.quietAt execOp
  rw [ho]
  simp only [hs]
  go_simp
theorem quiet_cM {C : World → Prop} {o : Oper} {a : Act} {K : Act → Prop} (s : Operand) (hc : ∀ w, C w → MostIs w) (ho : o.op = .load 24 s) (hs : a.eval s = .pointer (some ⟨0, 0, none⟩))
    (hk : K (a.put o.dst (A (M - 1)))) : o.quiet Tryd.prog a C K := by
  refine ⟨_, fun w hw => ?_, hk⟩
  have c0 := (hc w hw).c0
  have c1 := (hc w hw).c1
  unfold Oper.quietAt execOp
  rw [ho]
  simp only [hs]
  go_simp
set_option maxRecDepth 100000 in
theorem quiet_ncmp {C : World → Prop} {o : Oper} {a : Act} {K : Act → Prop} (s t : Operand) {x y x' y' : Int} {r : Bool} (ho : o.op = .binOp .neq 24 s t 24) (hs : a.eval s = .agg #[.int .u64 x, .int .u64 y]) (ht : a.eval t = .agg #[.int .u64 x', .int .u64 y'])
    (h : (!(x == x' && y == y')) = r) (hk : K (a.put o.dst (.bool r))) : o.quiet Tryd.prog a C K := by
  refine ⟨_, fun w hw => ?_, hk⟩
  subst h
  unfold Oper.quietAt execOp
  rw [ho]
  simp only [hs, ht]
  by_cases e1 : x = x'
  · by_cases e2 : y = y'
    · subst e1 e2
      go_simp
    · have f2 : (y == y') = false := by simpa using e2
      rw [f2]
      go_simp
  · have f1 : (x == x') = false := by simpa using e1
    rw [f1]
    go_simp
theorem toList_ne {x y : ByteArray} (h : ¬ x = y) : ¬ x.toList = y.toList := fun e => h (ByteArray.ext (Array.toList_inj.1 (by rwa [Lib.toList_data, Lib.toList_data] at e)))
set_option maxRecDepth 100000 in
theorem quiet_eq39 {C : World → Prop} {o : Oper} {a : Act} {K : Act → Prop} (s t : Operand) {x y x' y' : ByteArray} {z z' : Int} {r : Bool} (ho : o.op = .binOp .eql 39 s t 39) (hs : a.eval s = .agg #[.string x, .string y, .int .i64 z]) (ht : a.eval t = .agg #[.string x', .string y', .int .i64 z'])
    (h : r = decide (x = x' ∧ y = y' ∧ z = z')) (hk : K (a.put o.dst (.bool r))) : o.quiet Tryd.prog a C K := by
  refine ⟨_, fun w hw => ?_, hk⟩
  subst h
  unfold Oper.quietAt execOp
  rw [ho]
  simp only [hs, ht]
  by_cases e1 : x = x'
  · by_cases e2 : y = y'
    · by_cases e3 : z = z'
      · subst e1 e2 e3
        go_simp
      · subst e1 e2
        have f3 : (z == z') = false := by simpa using e3
        go_simp
    · subst e1
      have n2 := toList_ne e2
      go_simp
  · have n1 := toList_ne e1
    go_simp
end Go.Proofs.YtjjlfkbgieloeaaDoor
