/- The row of the law QueueDoes. Conditions: none. -/
import Derived.Test.YtmepipnledoinaaRows
import Derived.WalkKit
import Derived.ProofKit
import Derived.OpenShut
import Derived.ShutString
import Derived.ChangeOld
import Derived.Below
import Derived.Deep.Slices
import Derived.Deep.Strs
import Derived.ChangeSame
import Derived.Test.YtmepipnledoinaaDoes
namespace Go.Proofs.Ytmepipnledoinaa.queueDoes
open Go.ChangeShapes Go.WideShapes Go.ChangeAt Go.RowKit
open Go.ChangeMaps (open_string shut_string)
set_option linter.unusedVariables false

theorem own : ownKnob Try.prog.godebug = none := by kernel_rfl
theorem laidOut : laidOutB Try.prog = true := by kernel_rfl

theorem cells_of {n : Nat} {H : Type} {enc : TypeId × Value → H} {W : World} {cs : List Value} {y : DataW H × List MemPlace} {spare : Nat → Bool} (h : DataW.trod enc Try.prog W 0 spare true n 46 cs = some y) :
    ∃ c : Cl, cs = [.int .i64 c.kind, .int .i64 c.it.due, .int .i64 c.it.stamp, .int .u64 c.it.hi, .int .u64 c.it.lo, .int .i64 c.n] := by
  obtain ⟨y0, y1, y2, n1, _, hl, h0, h1, h2⟩ := Deep.trod_struct3 Try.underlying46 h
  have hc46 : Try.prog.cellsOf 46 = 6 := by kernel_rfl
  have hc3 : Try.prog.cellsOf 3 = 1 := by kernel_rfl
  have hc34 : Try.prog.cellsOf 34 = 4 := by kernel_rfl
  have hc32 : Try.prog.cellsOf 32 = 2 := by kernel_rfl
  have hc30 : Try.prog.cellsOf 30 = 1 := by kernel_rfl
  rw [hc46] at hl
  match cs, hl with
  | [c0, c1, c2, c3, c4, c5], _ =>
    simp only [hc3, hc34, List.drop_succ_cons, List.drop_zero, List.take_succ_cons, List.take_zero] at h0 h1 h2
    obtain ⟨k, e0, _, _⟩ := DataW.trod_int Try.underlying3 h0
    obtain ⟨nn, e5, _, _⟩ := DataW.trod_int Try.underlying3 h2
    obtain ⟨z0, z1, z2, n2, _, _, g0, g1, g2⟩ := Deep.trod_struct3 Try.underlying34 h1
    simp only [hc3, hc32, List.drop_succ_cons, List.drop_zero, List.take_succ_cons, List.take_zero] at g0 g1 g2
    obtain ⟨d, e1, _, _⟩ := DataW.trod_int Try.underlying3 g0
    obtain ⟨s, e2, _, _⟩ := DataW.trod_int Try.underlying3 g1
    obtain ⟨u0, u1, n3, _, _, q0, q1⟩ := trod_struct2 Try.underlying32 g2
    simp only [hc30, List.drop_succ_cons, List.drop_zero, List.take_succ_cons, List.take_zero] at q0 q1
    obtain ⟨hi, e3, _, _⟩ := DataW.trod_int Try.underlying30 q0
    obtain ⟨lo, e4, _, _⟩ := DataW.trod_int Try.underlying30 q1
    simp only [List.cons.injEq, and_true] at e0 e1 e2 e3 e4 e5
    subst e0 e1 e2 e3 e4 e5
    exact ⟨⟨k, ⟨d, s, hi, lo⟩, nn⟩, rfl⟩
theorem reads_of {H : Type} {enc : TypeId × Value → H} {W : World} {fuel : Nat} {cs : List Value} {y : DataW H × List MemPlace} (h : DataW.trod enc Try.prog W 0 (fun _ => true) true fuel 43 cs = some y) :
    ∃ a len cap C, cs = [.slice a len cap] ∧ ReadsC W W.heap.size a len C := by
  rcases Deep.open_slice Try.underlying43 h with ⟨rfl, _⟩ | ⟨a, len, cap, m, n, D, Pl, rfl, _, hl, _, hm, _, hi⟩
  · exact ⟨none, 0, 0, fun _ => ⟨0, ⟨0, 0, 0, 0⟩, 0⟩, rfl, fun h => absurd h (by omega)⟩
  · have hc46 : Try.prog.cellsOf 46 = 6 := by kernel_rfl
    rw [hc46] at hi
    have hml : len ≤ m := by rw [hm]; simp; exact hl
    have hex : ∀ i, ∃ c : Cl, i < len → W.cell? (a.add (i * 6)) = some (.int .i64 c.kind) ∧ W.cell? (a.add (i * 6 + 1)) = some (.int .i64 c.it.due) ∧ W.cell? (a.add (i * 6 + 2)) = some (.int .i64 c.it.stamp) ∧
        W.cell? (a.add (i * 6 + 3)) = some (.int .u64 c.it.hi) ∧ W.cell? (a.add (i * 6 + 4)) = some (.int .u64 c.it.lo) ∧ W.cell? (a.add (i * 6 + 5)) = some (.int .i64 c.n) := by
      intro i
      by_cases hil : i < len
      · obtain ⟨cs', h1, h2⟩ := hi i (by omega)
        obtain ⟨c, rfl⟩ := cells_of h2
        obtain ⟨_, _, hat⟩ := World.cells?_some h1
        refine ⟨c, fun _ => ⟨?_, ?_, ?_, ?_, ?_, ?_⟩⟩
        · have := hat 0 (by omega); rwa [Addr.add_add, Nat.add_zero] at this
        · have := hat 1 (by omega); rwa [Addr.add_add] at this
        · have := hat 2 (by omega); rwa [Addr.add_add] at this
        · have := hat 3 (by omega); rwa [Addr.add_add] at this
        · have := hat 4 (by omega); rwa [Addr.add_add] at this
        · have := hat 5 (by omega); rwa [Addr.add_add] at this
      · exact ⟨⟨0, ⟨0, 0, 0, 0⟩, 0⟩, fun h => absurd h hil⟩
    refine ⟨some a, len, cap, fun i => (hex i).choose, rfl, fun h0 => ⟨a, rfl, ?_, fun i hil => (hex i).choose_spec hil⟩⟩
    have := World.block_lt_of_cell? W _ ((hex 0).choose_spec h0).1
    rwa [block_of_add] at this
theorem walk (a0 : Option Addr) (len0 cap0 : Nat) (C : Nat → Cl) (w : World) (w0 : ReadsC w w.heap.size a0 len0 C) :
    Calls Try.prog 6 #[.slice a0 len0 cap0] w fun e w' => e = .returned (.bool true) ∧ Below w.heap.size w w' :=
  does_any a0 len0 cap0 C w w0

set_option maxRecDepth 100000 in
theorem lifted (os : Os) (started : os.Started) (H : Type) (enc : TypeId × Value → H) :
    ReturnsInHanded {} Try.checked os 6 .any (Rows.queueDoesSpec.pre6 enc Try.prog Try.f6 Rows.queueDoesRow.domain false) (Rows.queueDoesSpec.post enc Try.prog Try.f6 false true false false) := by
  refine returnsInHanded_of_change (C := Try.checked) own started (by kernel_rfl) Try.func6
    (ChangeSpec.witness6 (enc := enc) (C := Try.checked) false ⟨#[], #[.slice none 0 0], []⟩ 8 (by kernel_rfl) (by kernel_rfl) (by kernel_rfl) (by kernel_rfl)) ?_
  intro W base args ds gs before hval0 hW hcnd _
  have hval : ∀ (j : Nat) t v, Try.f6.params[j]? = some t → args[j]? = some v → Value.okWide Try.prog W .any base t v := hval0
  have hW' := hW
  obtain ⟨p, q, hA0, hV, rfl, hfz, hnd⟩ := hW
  have hA : DataW.TrodAll enc Try.prog W 0 (fun _ => true) true Try.f6.params.toList args.toList ds p := hA0
  rw [Try.params6] at hA hval
  obtain ⟨v0, vs0, d0, ds0, p0, q0, hargs, rfl, rfl, h0, r0⟩ := trodAll_cons hA
  obtain ⟨rfl, rfl, rfl⟩ := trodAll_nil r0
  obtain rfl : args = #[v0] := by cases args; simp_all
  obtain ⟨rfl, rfl⟩ := trodVars_none hV
  obtain ⟨a0, len0, cap0, rfl⟩ := okWide_slice Try.underlying43 (hval 0 43 v0 rfl rfl)
  have k0 := h0
  have lt0 : ∀ x ∈ p0, x.block < W.heap.size := by obtain ⟨m, hm⟩ := k0; exact DataW.trod_lt m _ _ _ hm
  obtain ⟨C, w0⟩ : ∃ C, ReadsC W W.heap.size a0 len0 C := by
    obtain ⟨fuel, hf⟩ := h0
    obtain ⟨a, len, cap, C, hcs, hC⟩ := reads_of hf
    simp [Value.cells] at hcs
    obtain ⟨rfl, rfl, rfl⟩ := hcs
    exact ⟨C, hC⟩
  clear hA0 hval0
  refine (walk a0 len0 cap0 C W w0).mono fun e W' ⟨he, bel⟩ => ?_
  subst he
  exact ⟨_, rfl, _, _, _, [], _, [], hW', trodAll_mk1 (shut_bool Try.underlying4 _), (trodAll_cons_mk (Below.trod laidOut (by kernel_rfl) (of_decide_eq_true (by kernel_rfl)) k0 bel lt0) trodAll_mk0), rfl, bel.frame _, fun h => by cases h⟩

theorem over : Rows.queueDoesRow.holds Try.pinned (OpenSpec.ofChange Rows.queueDoesSpec) :=
  OpenClaim.holds_of_wide 6 Try.f6 rfl rfl rfl rfl rfl rfl rfl ⟨rfl, rfl, rfl, rfl, rfl⟩ rfl rfl rfl rfl rfl (by kernel_rfl) Try.func6 (by kernel_rfl)
    (of_decide_eq_true (by kernel_rfl)) (by unfold Func.isWrapper; first | (rw [if_pos (by decide +kernel)]; kernel_rfl) | (rw [if_neg (by decide +kernel)]; exact ⟨rfl, rfl⟩))
    (fun os started H enc _ => lifted os started H enc)

theorem proved : Rows.QueueDoesSaid := over
#print axioms proved
end Go.Proofs.Ytmepipnledoinaa.queueDoes
