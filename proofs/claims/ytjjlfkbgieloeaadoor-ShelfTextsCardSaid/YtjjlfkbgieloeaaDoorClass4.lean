/- A drawn region walked once in a class of worlds: a field, texts that are one. Conditions: none. -/
import Derived.Test.YtjjlfkbgieloeaaDoorClass3
namespace Go.Proofs.YtjjlfkbgieloeaaDoor
open Go.RowKit Go.BigFrame
theorem quiet_s9 {C : World → Prop} {o : Oper} {a : Act} {K : Act → Prop} (s : Operand) {g i : Nat} {x : ByteArray} (hc : ∀ w, C w → w.cell? ⟨g, i, none⟩ = some (.string x)) (ho : o.op = .load 9 s) (hs : a.eval s = .pointer (some ⟨g, i, none⟩))
    (hk : K (a.put o.dst (.string x))) : o.quiet Tryd.prog a C K := by
  refine ⟨_, fun w hw => ?_, hk⟩
  have c0 := hc w hw
  unfold Oper.quietAt execOp
  rw [ho]
  simp only [hs]
  go_simp
theorem quiet_i3 {C : World → Prop} {o : Oper} {a : Act} {K : Act → Prop} (s : Operand) {g i : Nat} {x : Int} (hc : ∀ w, C w → w.cell? ⟨g, i, none⟩ = some (.int .i64 x)) (ho : o.op = .load 3 s) (hs : a.eval s = .pointer (some ⟨g, i, none⟩))
    (hk : K (a.put o.dst (.int .i64 x))) : o.quiet Tryd.prog a C K := by
  refine ⟨_, fun w hw => ?_, hk⟩
  have c0 := hc w hw
  unfold Oper.quietAt execOp
  rw [ho]
  simp only [hs]
  go_simp
theorem quiet_eqs {C : World → Prop} {o : Oper} {a : Act} {K : Act → Prop} (s t : Operand) {x : ByteArray} (ho : o.op = .binOp .eql 9 s t 9) (hs : a.eval s = .string x) (ht : a.eval t = .string x)
    (hk : K (a.put o.dst (.bool true))) : o.quiet Tryd.prog a C K := by
  refine ⟨_, fun w hw => ?_, hk⟩
  unfold Oper.quietAt execOp
  rw [ho]
  simp only [hs, ht]
  go_simp
theorem quiet_nb {C : World → Prop} {o : Oper} {a : Act} {K : Act → Prop} (s t : Operand) {b : Bool} (ho : o.op = .binOp .neq 4 s t 4) (hs : a.eval s = .bool b) (ht : a.eval t = .bool b)
    (hk : K (a.put o.dst (.bool false))) : o.quiet Tryd.prog a C K := by
  refine ⟨_, fun w hw => ?_, hk⟩
  unfold Oper.quietAt execOp
  rw [ho]
  simp only [hs, ht]
  cases b <;> go_simp
end Go.Proofs.YtjjlfkbgieloeaaDoor
