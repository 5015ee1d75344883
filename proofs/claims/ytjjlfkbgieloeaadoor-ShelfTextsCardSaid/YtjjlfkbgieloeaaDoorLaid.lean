/- What the listed package-level variables hold: for the walks and for the witness. Conditions: none. -/
import Derived.Test.YtjjlfkbgieloeaaDoorRows
import Derived.Test.YtjjlfkbgieloeaaDoorAlive
import Derived.ProofKit
import Derived.LaidLaws
import Derived.Lib.LaidTab
import Derived.Lib.SmallJoins
namespace Go.Proofs.YtjjlfkbgieloeaaDoor
open Go.ChangeShapes Go.WideShapes Go.ChangeAt Go.RowKit Go.Joins
theorem cells24 : Tryd.prog.cellsOf 24 = 2 := by kernel_rfl
theorem cells22 : Tryd.prog.cellsOf 22 = 1 := by kernel_rfl
theorem gMost : Tryd.prog.globalNamed "bondstore/wide.Most" = some 0 := by kernel_rfl
theorem gMostType : (Tryd.prog.globals[0]?).map (·.type) = some 24 := by kernel_rfl
theorem laid_mem {P : Program} {w : World} : ∀ {l : List (String × DataW Unit)} {ps : List MemPlace}, DataW.LaidVars P w l ps → ∀ {n : String} {d : DataW Unit}, (n, d) ∈ l →
    ∃ g t cs fuel p, P.globalNamed n = some g ∧ (P.globals[g]?).map (·.type) = some t ∧ w.var? P n = some cs ∧ DataW.trod (fun _ => ()) P w 0 (fun _ => true) false fuel t cs.toList = some (d, p)
  | [], _, _, _, _, h => by cases h
  | (n, d) :: r, ps, h, m, e, hm => by
    obtain ⟨g, t, cs, fuel, p, q, h1, h2, h3, h4, h5, _⟩ := h
    rcases List.mem_cons.1 hm with hx | hx
    · injection hx with hx hy
      subst hx; subst hy
      exact ⟨g, t, cs, fuel, p, h1, h2, h3, h4⟩
    · exact laid_mem h5 hx
theorem most_of_vars {W : World} {l : List (String × DataW Unit)} (h : laidMet Tryd.prog l W) (hm : ("bondstore/wide.Most", Rows.laid_bondstore_wide_Most) ∈ l) : MostIs W := by
  obtain ⟨ps, hl, _⟩ := h
  obtain ⟨g, t, cs, fuel, p, h1, h2, h3, h4⟩ := laid_mem hl hm
  obtain rfl := Option.some.inj (gMost.symm.trans h1)
  obtain rfl := Option.some.inj (gMostType.symm.trans h2)
  obtain ⟨y0, y1, n, hx, hlen, k0, k1⟩ := trod_struct2 Tryd.underlying24 h4
  obtain ⟨a, e0, rfl, _⟩ := DataW.trod_int Tryd.underlying22 k0
  obtain ⟨b, e1, rfl, _⟩ := DataW.trod_int Tryd.underlying22 k1
  have hp : (18446744073709551615 : Int) = a ∧ (18446744073709551615 : Int) = b := by
    have h5 := congrArg Prod.fst hx
    simp only [Rows.laid_bondstore_wide_Most, DataW.agg.injEq, List.cons.injEq, DataW.lit.injEq, Lit.int.injEq, true_and, and_true] at h5
    exact h5
  rw [cells22] at e0 e1
  have f0 : cs[0]? = some (.int .u64 a) := by
    have := congrArg (·[0]?) e0
    simpa [List.getElem?_take, List.getElem?_drop] using this
  have f1 : cs[1]? = some (.int .u64 b) := by
    have := congrArg (·[0]?) e1
    simpa [List.getElem?_take, List.getElem?_drop] using this
  have m0 : hi (M - 1) = a := by rw [← hp.1]; decide +kernel
  have m1 : lo (M - 1) = b := by rw [← hp.2]; decide +kernel
  exact ⟨by rw [World.var?_cell gMost h3 0, f0, m0], by rw [World.var?_cell gMost h3 1, f1, m1]⟩
theorem most_wideOrder {W : World} (h : laidMetH Tryd.prog Rows.wideOrderRow.laid W) : MostIs W := most_of_vars (l := Rows.wideOrderRow.laid) h (List.mem_cons_self ..)
theorem most_wideBytes {W : World} (h : laidMetH Tryd.prog Rows.wideBytesRow.laid W) : MostIs W := most_of_vars (l := Rows.wideBytesRow.laid) h (List.mem_cons_self ..)
theorem most_wideLaws {W : World} (h : laidMetH Tryd.prog Rows.wideLawsRow.laid W) : MostIs W := most_of_vars (l := Rows.wideLawsRow.laid) h (List.mem_cons_self ..)
theorem most_wideSums {W : World} (h : laidMetH Tryd.prog Rows.wideSumsRow.laid W) : MostIs W := most_of_vars (l := Rows.wideSumsRow.laid) h (List.mem_cons_self ..)
theorem most_wideShows {W : World} (h : laidMetH Tryd.prog Rows.wideShowsRow.laid W) : MostIs W := most_of_vars (l := Rows.wideShowsRow.laid) h (List.mem_cons_of_mem _ (List.mem_cons_self ..))
theorem most_wideParses {W : World} (h : laidMetH Tryd.prog Rows.wideParsesRow.laid W) : MostIs W := most_of_vars (l := Rows.wideParsesRow.laid) h (List.mem_cons_of_mem _ (List.mem_cons_self ..))
theorem most_shelfUnlike {W : World} (h : laidMetH Tryd.prog Rows.shelfUnlikeRow.laid W) : MostIs W := most_of_vars (l := Rows.shelfUnlikeRow.laid) h (List.mem_cons_of_mem _ (List.mem_cons_self ..))
/-- a block's cells laid anew -/
def lay (h : Array Obj) (g : Nat) (cs : Array Value) : Array Obj := h.modify g fun
      | .cells _ t frozen => .cells cs t frozen
      | o => o
def mostCells : Array Value := #[.int .u64 18446744073709551615, .int .u64 18446744073709551615]
def firstCells : Array Value := (Go.Pinned.utf8FirstZ.map fun n : Nat => Value.int .u8 (n : Int)).toArray
def rangeCells : Array Value := #[.int .u8 128, .int .u8 191, .int .u8 160, .int .u8 191, .int .u8 128, .int .u8 159, .int .u8 144, .int .u8 191, .int .u8 128, .int .u8 143, .int .u8 0, .int .u8 0, .int .u8 0, .int .u8 0, .int .u8 0, .int .u8 0, .int .u8 0, .int .u8 0, .int .u8 0, .int .u8 0, .int .u8 0, .int .u8 0, .int .u8 0, .int .u8 0, .int .u8 0, .int .u8 0, .int .u8 0, .int .u8 0, .int .u8 0, .int .u8 0, .int .u8 0, .int .u8 0]
noncomputable def world0 (os : Os) : World := World.holding Tryd.prog os ⟨#[], #[], []⟩
noncomputable def laidWorld1 (os : Os) : World := { world0 os with heap := lay (world0 os).heap 0 mostCells }
noncomputable def laidWorld2 (os : Os) : World := { world0 os with heap := lay (lay (world0 os).heap 4 firstCells) 5 rangeCells }
noncomputable def laidWorld3 (os : Os) : World := { world0 os with heap := lay (lay (lay (world0 os).heap 4 firstCells) 5 rangeCells) 0 mostCells }
end Go.Proofs.YtjjlfkbgieloeaaDoor
