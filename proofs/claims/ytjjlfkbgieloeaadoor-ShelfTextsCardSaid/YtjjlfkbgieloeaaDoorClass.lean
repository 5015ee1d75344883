/- A region that draws its order, walked once in a class of worlds: the loads and the calls of numbers. Conditions: none. -/
import Derived.Test.YtjjlfkbgieloeaaDoorBoth
import Derived.BigQuiet
namespace Go.Proofs.YtjjlfkbgieloeaaDoor
open Go.RowKit Go.BigFrame
/-- known numbers lie in known blocks; what was below the base is as it was -/
structure Has (w0 : World) (l : List (Nat × Int × Int)) (w : World) : Prop where
  blk : ∀ x ∈ l, Blk w x.1 24 #[.int .u64 x.2.1, .int .u64 x.2.2]
  bel : Below w0.heap.size w0 w
theorem Has.next {w0 w w' : World} {l : List (Nat × Int × Int)} (h : Has w0 l w) (hb : Below w.heap.size w w') : Has w0 l w' :=
  ⟨fun x hx => (h.blk x hx).carry hb, below_on h.bel hb⟩
theorem Has.get {w0 w : World} {l : List (Nat × Int × Int)} (h : Has w0 l w) (i : Nat) {g : Nat} {x y : Int} (hi : l[i]? = some (g, x, y)) : Blk w g 24 #[.int .u64 x, .int .u64 y] :=
  h.blk (g, x, y) (List.mem_of_getElem? hi)
theorem region_class {P : Program} {C : World → Prop} {id : Nat} {Q : Exit → Act → World → Prop} {a : Act} {w : World} {l : List Oper} (hm : P.follows .mixedOrders = true) (hB : Region.lexB .any l.toArray = true) (hC : C w.drew)
    (h : wpQuiet P l.toArray C (fun a' => ∀ w', C w' → Q .normal a' w') l a) : (Code.region id l.toArray true).wp P Q a w :=
  wp_region_quiet (C := C) hm hB hC (by simpa using h)
theorem quiet_load {o : Oper} {a : Act} {w0 : World} {l : List (Nat × Int × Int)} {K : Act → Prop} (s : Operand) (i : Nat) {g : Nat} {x y : Int} (ho : o.op = .load 24 s) (hs : a.eval s = .pointer (some ⟨g, 0, none⟩)) (hi : l[i]? = some (g, x, y))
    (hk : K (a.put o.dst (.agg #[.int .u64 x, .int .u64 y]))) : o.quiet Tryd.prog a (Has w0 l) K := by
  refine ⟨_, fun w hw => ?_, hk⟩
  have hb := hw.get i hi
  have c0 := cell_of0 hb
  have c1 := cell_of1 hb
  unfold Oper.quietAt execOp
  rw [ho]
  simp only [hs]
  go_simp
theorem quiet_eq {C : World → Prop} {o : Oper} {a : Act} {K : Act → Prop} (s t : Operand) {x y : Int} (ho : o.op = .binOp .eql 24 s t 24) (hs : a.eval s = .agg #[.int .u64 x, .int .u64 y]) (ht : a.eval t = .agg #[.int .u64 x, .int .u64 y])
    (hk : K (a.put o.dst (.bool true))) : o.quiet Tryd.prog a C K := by
  refine ⟨_, fun w hw => ?_, hk⟩
  unfold Oper.quietAt execOp
  rw [ho]
  simp only [hs, ht]
  go_simp
theorem enters {P : Program} {f : FuncId} {fn : Func} (hf : P.funcs[f]? = some fn) (hn : (fn.name == "runtime.NumGoroutine") = false) (hb : fn.body.isNone = false) (args : Array Value) (w : World) : (callFunc f args).run P w = .ok (.enter f args) w := by
  have h1 : fn.name ≠ "runtime.NumGoroutine" := by simpa using hn
  have h2 : fn.body ≠ none := fun e => by rw [e] at hb; cases hb
  simp [callFunc, hf, h1, h2]
theorem exec_call {f : FuncId} {o : Oper} {a : Act} {ats : Array TypeId} {xs : Array Operand} (hop : o.op = .call { callee := .value (.func f), args := xs, argTypes := ats }) : execOp a.eval o = callFunc f (xs.map a.eval) := by
  have ef : a.eval (.func f) = .func (.func f) #[] #[] := rfl
  unfold execOp
  simp [hop, resolve, Deferred.ofValue, invoke, ef]
theorem quiet_call {P : Program} {C : World → Prop} {o : Oper} {a : Act} {K : Act → Prop} {v : Value} {f : FuncId} {xs : Array Operand} {ats : Array TypeId} (ho : o.op = .call { callee := .value (.func f), args := xs, argTypes := ats })
    {fn : Func} (hf : P.funcs[f]? = some fn) (hn : (fn.name == "runtime.NumGoroutine") = false) (hb : fn.body.isNone = false) (h : ∀ w, C w → Calls P f (xs.map a.eval) w fun e w' => e = .returned v ∧ C w') (hk : K (a.put o.dst v)) : o.quiet P a C K := by
  refine ⟨v, fun w hw => ?_, hk⟩
  unfold Oper.quietAt
  rw [exec_call ho, enters hf hn hb]
  exact ⟨rfl, h w hw⟩
end Go.Proofs.YtjjlfkbgieloeaaDoor
