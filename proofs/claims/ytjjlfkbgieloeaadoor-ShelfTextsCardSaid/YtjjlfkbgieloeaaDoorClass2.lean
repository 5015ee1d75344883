/- A drawn region walked once in a class of worlds: more operations. Conditions: none. -/
import Derived.Test.YtjjlfkbgieloeaaDoorClass
import Derived.Test.YtjjlfkbgieloeaaDoorAlive
namespace Go.Proofs.YtjjlfkbgieloeaaDoor
open Go.RowKit Go.BigFrame
theorem wq_cast {P : Program} {ops : Array Oper} {C : World → Prop} {Q : Act → Prop} {l : List Oper} {a a' : Act} (h : a = a') (k : wpQuiet P ops C Q l a') : wpQuiet P ops C Q l a := h ▸ k
structure HasM (w0 : World) (l : List (Nat × Int × Int)) (w : World) : Prop where
  has : Has w0 l w
  most : MostIs w
theorem HasM.next {w0 w w' : World} {l : List (Nat × Int × Int)} (h : HasM w0 l w) (hb : Below w.heap.size w w') : HasM w0 l w' := ⟨h.has.next hb, h.most.below hb⟩
theorem quiet_call2 {P : Program} {C : World → Prop} {o : Oper} {a : Act} {K : Act → Prop} {v : Value} {f : FuncId} {xs : Array Operand} {ats : Array TypeId} (vs : Array Value) (ho : o.op = .call { callee := .value (.func f), args := xs, argTypes := ats })
    {fn : Func} (hf : P.funcs[f]? = some fn) (hn : (fn.name == "runtime.NumGoroutine") = false) (hb : fn.body.isNone = false) (hv : xs.map a.eval = vs) (h : ∀ w, C w → Calls P f vs w fun e w' => e = .returned v ∧ C w') (hk : K (a.put o.dst v)) : o.quiet P a C K :=
  quiet_call ho hf hn hb (by rw [hv]; exact h) hk
set_option maxRecDepth 100000 in
theorem quiet_cmp {C : World → Prop} {o : Oper} {a : Act} {K : Act → Prop} (s t : Operand) {x y x' y' : Int} {r : Bool} (ho : o.op = .binOp .eql 24 s t 24) (hs : a.eval s = .agg #[.int .u64 x, .int .u64 y]) (ht : a.eval t = .agg #[.int .u64 x', .int .u64 y'])
    (h : (x == x' && y == y') = r) (hk : K (a.put o.dst (.bool r))) : o.quiet Tryd.prog a C K := by
  refine ⟨_, fun w hw => ?_, hk⟩
  subst h
  unfold Oper.quietAt execOp
  rw [ho]
  simp only [hs, ht]
  by_cases e1 : x = x'
  · by_cases e2 : y = y'
    · subst e1 e2
      go_simp
    · have f2 : (y == y') = false := by simpa using e2
      rw [f2]
      go_simp
  · have f1 : (x == x') = false := by simpa using e1
    rw [f1]
    go_simp
theorem quiet_loadm {o : Oper} {a : Act} {w0 : World} {l : List (Nat × Int × Int)} {K : Act → Prop} (s : Operand) (i : Nat) {g : Nat} {x y : Int} (ho : o.op = .load 24 s) (hs : a.eval s = .pointer (some ⟨g, 0, none⟩)) (hi : l[i]? = some (g, x, y))
    (hk : K (a.put o.dst (.agg #[.int .u64 x, .int .u64 y]))) : o.quiet Tryd.prog a (HasM w0 l) K := by
  refine ⟨_, fun w hw => ?_, hk⟩
  have hb := hw.has.get i hi
  have c0 := cell_of0 hb
  have c1 := cell_of1 hb
  unfold Oper.quietAt execOp
  rw [ho]
  simp only [hs]
  go_simp
theorem quiet_load0 {o : Oper} {a : Act} {w0 : World} {l : List (Nat × Int × Int)} {K : Act → Prop} (s : Operand) (ho : o.op = .load 24 s) (hs : a.eval s = .pointer (some ⟨0, 0, none⟩))
    (hk : K (a.put o.dst (A (M - 1)))) : o.quiet Tryd.prog a (HasM w0 l) K := by
  refine ⟨_, fun w hw => ?_, hk⟩
  have c0 := hw.most.c0
  have c1 := hw.most.c1
  unfold Oper.quietAt execOp
  rw [ho]
  simp only [hs]
  go_simp
end Go.Proofs.YtjjlfkbgieloeaaDoor
