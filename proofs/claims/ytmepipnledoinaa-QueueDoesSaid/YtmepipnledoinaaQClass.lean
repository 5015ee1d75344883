/- A region that draws its order, walked once in a class of worlds: a queue's loads and calls. Conditions: none. -/
import Derived.Test.YtmepipnledoinaaQBase
import Derived.BigQuiet
import Derived.Deep.QuietTactic
import Derived.Deep.LoopGhost
namespace Go.Proofs.Ytmepipnledoinaa
open Go.RowKit Go.BigFrame
theorem wq_cast {P : Program} {ops : Array Oper} {C : World → Prop} {Q : Act → Prop} {l : List Oper} {a a' : Act} (h : a = a') (k : wpQuiet P ops C Q l a') : wpQuiet P ops C Q l a := h ▸ k
theorem region_class {P : Program} {C : World → Prop} {id : Nat} {Q : Exit → Act → World → Prop} {a : Act} {w : World} {l : List Oper} (hm : P.follows .mixedOrders = true) (hB : Region.lexB .any l.toArray = true) (hC : C w.drew)
    (h : wpQuiet P l.toArray C (fun a' => ∀ w', C w' → Q .normal a' w') l a) : (Code.region id l.toArray true).wp P Q a w :=
  wp_region_quiet (C := C) hm hB hC (by simpa using h)
theorem enters {P : Program} {f : FuncId} {fn : Func} (hf : P.funcs[f]? = some fn) (hn : (fn.name == "runtime.NumGoroutine") = false) (hb : fn.body.isNone = false) (args : Array Value) (w : World) : (callFunc f args).run P w = .ok (.enter f args) w := by
  have h1 : fn.name ≠ "runtime.NumGoroutine" := by simpa using hn
  have h2 : fn.body ≠ none := fun e => by rw [e] at hb; cases hb
  simp [callFunc, hf, h1, h2]
theorem exec_call {f : FuncId} {o : Oper} {a : Act} {ats : Array TypeId} {xs : Array Operand} (hop : o.op = .call { callee := .value (.func f), args := xs, argTypes := ats }) : execOp a.eval o = callFunc f (xs.map a.eval) := by
  have ef : a.eval (.func f) = .func (.func f) #[] #[] := rfl
  unfold execOp
  simp [hop, resolve, Deferred.ofValue, invoke, ef]
theorem quiet_call {P : Program} {C : World → Prop} {o : Oper} {a : Act} {K : Act → Prop} {v : Value} {f : FuncId} {xs : Array Operand} {ats : Array TypeId} (ho : o.op = .call { callee := .value (.func f), args := xs, argTypes := ats })
    {fn : Func} (hf : P.funcs[f]? = some fn) (hn : (fn.name == "runtime.NumGoroutine") = false) (hb : fn.body.isNone = false) (h : ∀ w, C w → Calls P f (xs.map a.eval) w fun e w' => e = .returned v ∧ C w') (hk : K (a.put o.dst v)) : o.quiet P a C K := by
  refine ⟨v, fun w hw => ?_, hk⟩
  unfold Oper.quietAt
  rw [exec_call ho, enters hf hn hb]
  exact ⟨rfl, h w hw⟩
theorem quiet_call2 {P : Program} {C : World → Prop} {o : Oper} {a : Act} {K : Act → Prop} {v : Value} {f : FuncId} {xs : Array Operand} {ats : Array TypeId} (vs : Array Value) (ho : o.op = .call { callee := .value (.func f), args := xs, argTypes := ats })
    {fn : Func} (hf : P.funcs[f]? = some fn) (hn : (fn.name == "runtime.NumGoroutine") = false) (hb : fn.body.isNone = false) (hv : xs.map a.eval = vs) (h : ∀ w, C w → Calls P f vs w fun e w' => e = .returned v ∧ C w') (hk : K (a.put o.dst v)) : o.quiet P a C K :=
  quiet_call ho hf hn hb (by rw [hv]; exact h) hk
/-- a queue's row lies there, and nothing but it has turned -/
structure QC (w0 : World) (B q g cap : Nat) (h : List It) (w : World) : Prop where
  row : QRow w B q g cap h
  grow : w0.grownBy w (some g)
theorem QC.next {w0 w w' : World} {B q g cap : Nat} {h : List It} (c : QC w0 B q g cap h w) (hb : Below w.heap.size w w') : QC w0 B q g cap h w' := ⟨c.row.below hb, grown_trans c.grow (grown_of_below hb)⟩
theorem QC.drew {w0 w : World} {B q g cap : Nat} {h : List It} (c : QC w0 B q g cap h w) : QC w0 B q g cap h w.drew := ⟨c.row.drew, grown_drew c.grow⟩
theorem quiet_q {C : World → Prop} {o : Oper} {a : Act} {K : Act → Prop} (s : Operand) {q g n cap : Nat} (hc : ∀ w, C w → w.cell? ⟨q, 0, none⟩ = some (.slice (some ⟨g, 0, none⟩) n cap)) (ho : o.op = .load 25 s) (hs : a.eval s = .pointer (some ⟨q, 0, none⟩))
    (hk : K (a.put o.dst (.slice (some ⟨g, 0, none⟩) n cap))) : o.quiet Try.prog a C K := by
  refine ⟨_, fun w hw => ?_, hk⟩
  have c0 := hc w hw
  unfold Oper.quietAt execOp
  rw [ho]
  simp only [hs]
  go_simp
theorem quiet_item {C : World → Prop} {o : Oper} {a : Act} {K : Act → Prop} (s : Operand) {g k : Nat} {x y z t : Int} (hc : ∀ w, C w → w.cell? ⟨g, k, none⟩ = some (.int .i64 x) ∧ w.cell? ⟨g, k + 1, none⟩ = some (.int .i64 y) ∧ w.cell? ⟨g, k + 2, none⟩ = some (.int .u64 z) ∧ w.cell? ⟨g, k + 3, none⟩ = some (.int .u64 t)) (ho : o.op = .load 34 s) (hs : a.eval s = .pointer (some ⟨g, k, none⟩))
    (hk : K (a.put o.dst (iv x y z t))) : o.quiet Try.prog a C K := by
  refine ⟨_, fun w hw => ?_, hk⟩
  obtain ⟨c0, c1, c2, c3⟩ := hc w hw
  unfold Oper.quietAt execOp
  rw [ho]
  simp only [hs]
  go_simp
theorem QC.item {w0 w : World} {B q g cap : Nat} {h : List It} (c : QC w0 B q g cap h w) {i : Nat} (hi : i < h.length) {x : It} (hx : Heap.g h i = x) : w.cell? ⟨g, i * 4, none⟩ = some (.int .i64 x.due) ∧ w.cell? ⟨g, i * 4 + 1, none⟩ = some (.int .i64 x.stamp) ∧ w.cell? ⟨g, i * 4 + 2, none⟩ = some (.int .u64 x.hi) ∧ w.cell? ⟨g, i * 4 + 3, none⟩ = some (.int .u64 x.lo) := hx ▸ c.row.item hi
end Go.Proofs.Ytmepipnledoinaa
