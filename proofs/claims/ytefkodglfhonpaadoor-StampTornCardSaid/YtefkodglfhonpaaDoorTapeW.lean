/- The contracts of tape.Writer. Conditions: few bytes. -/
import Derived.Test.YtefkodglfhonpaaDoorKit
import Derived.Test.YtefkodglfhonpaaDoorHold
import Derived.Test.YtefkodglfhonpaaDoorPl
import Derived.Deep.RegionHeld3
import Derived.Deep.AppendLies
import Derived.Deep.LoopGhost
import Derived.Deep.RegionLaw
import Derived.Deep.DrawnRows
import Derived.PlainAid
import Derived.Lib.AppendStr
import Derived.Test.YtefkodglfhonpaaDoorConv
namespace Go.Proofs.YtefkodglfhonpaaDoor
open Go.RowKit Go.PlainAid
attribute [local go_sem ↓] Go.wp_at_zero Go.wp_at_succ
theorem Tryd.info5 : (Tryd.prog.info? 5).map (fun i => (i.zero, i.size, i.bytes)) = some (some (.int .u8 0), 1, 1) := by kernel_rfl
/-- a Writer that has been given the bytes l -/
def WAt (w : World) (B q : Nat) (l : List UInt8) : Prop := q < B ∧ B ≤ w.heap.size ∧ ∃ v, Blk w q 48 #[v] ∧ w.ownsRow B 5 1 v l.length (Lib.byteCells l)
theorem byteCells_len (l : List UInt8) : (Lib.byteCells l).length = l.length := by unfold Lib.byteCells; rw [List.length_map]
theorem byteCells_one (l : List UInt8) : ∀ u ∈ Lib.byteCells l, u.oneCell' = true := by
  intro u hu
  unfold Lib.byteCells at hu
  obtain ⟨b, _, rfl⟩ := List.mem_map.1 hu
  rfl
theorem WAt.below {w w' : World} {B q : Nat} {l : List UInt8} (h : WAt w B q l) (hb : Below w.heap.size w w') : WAt w' B q l := by
  obtain ⟨h1, h2, v, h3, h4⟩ := h
  exact ⟨h1, Nat.le_trans h2 hb.size, v, h3.below hb h3.lt, own_below h4 hb⟩
theorem own_set {w : World} {B q : Nat} {v u : Value} {n : Nat} {xs : List Value} (h : w.ownsRow B 5 1 v n xs) (hq : q < B) : (w.setCell ⟨q, 0, none⟩ u).ownsRow B 5 1 v n xs := ownsRow_setCell_below h hq u
theorem below_alloc' {B : Nat} {w w' : World} (h : Below B w w') (o : Obj) (hB : B ≤ w'.heap.size) : Below B w (w'.alloc o) := h.alloc hB o
theorem below_drew1' {B : Nat} {w w' : World} (h : Below B w w') : Below B w w'.drew := h.drew
theorem wcells_snoc (l : List UInt8) (b : UInt8) (x : Int) (h : (b.toNat : Int) = x) : Lib.byteCells (l ++ [b]) = Lib.byteCells l ++ [.int .u8 x] := by
  subst h; unfold Lib.byteCells; rw [List.map_append]; rfl
structure WIntInv (w : World) (B q : Nat) (l : List UInt8) (n : Nat) (m : Nat) (v : Value) (k : Nat) (wr : World) : Prop where
  v : v = .int .i64 ((m - k : Nat) : Int)
  le : k ≤ m
  at_ : WAt wr B q (l ++ Pl.le (m - k) n)
  bel : Below q w wr
theorem wint_byte (n i : Nat) : IntKind.u8.wrap (((n : Int)) / 2 ^ (8 * i)) = ((UInt8.ofNat (n / 2 ^ (8 * i))).toNat : Int) := by
  rw [UInt8.toNat_ofNat', show ((2 : Int) ^ (8 * i)) = ((2 ^ (8 * i) : Nat) : Int) by simp, ← Int.natCast_ediv]
  unfold IntKind.wrap
  simp [IntKind.signed, IntKind.bits]
set_option maxRecDepth 100000 in
set_option maxHeartbeats 4000000 in
theorem wint_any (m n : Nat) (l : List UInt8) (B q : Nat) (w : World) (hm : m = 2 ∨ m = 8) (hl : l.length ≤ 1000) (h : WAt w B q l) :
    Calls Tryd.prog 21 #[.pointer (some ⟨q, 0, none⟩), .int .i64 m, .int .i64 n] w fun e w' => e = .returned (.tuple #[]) ∧ WAt w' B q (l ++ Pl.le m n) ∧ Below q w w' := by
  obtain ⟨i0, hi0, hz0, hz1, hz2⟩ := info_parts Tryd.info5
  have hm1 : 1 ≤ m := by omega
  have hm8 : m ≤ 8 := by omega
  have H := Lib.hid h
  have HM := Lib.hid hm
  clear h hm
  go_enter Tryd.func21, Tryd.ntmps21
  go_wp2_with fail
  go_loopg [10] m (fun k v wr => WIntInv w B q l n m v k wr)
  case atStart => exact ⟨by rw [Nat.sub_self]; rfl, Nat.le_refl _, by rw [Nat.sub_self]; simpa [Pl.le] using H.out, Below.refl _ _⟩
  case round =>
    obtain ⟨rfl, hle, hat, hbel⟩ := hrel
    cases gk with
    | zero =>
      have HB := Lib.hid (And.intro hat hbel)
      clear hat hbel hle
      go_wp2
      go_end0
      exact ⟨rfl, HB.out.1, HB.out.2⟩
    | succ k =>
      obtain ⟨i, hi⟩ : ∃ i : Nat, m - (k + 1) = i := ⟨_, rfl⟩
      rw [hi] at hat ⊢
      have him : i < m := by omega
      have HK := Lib.hid (And.intro hi hle)
      clear hi hle
      obtain ⟨hq, hB, v, hbv, hown⟩ := hat
      have hlen : (l ++ Pl.le i n).length = l.length + i := by rw [List.length_append, Pl.le_length]
      have hn1 : (l ++ Pl.le i n).length + 1 ≤ maxLen := by unfold maxLen; omega
      have hn2 : ((l ++ Pl.le i n).length + 1) * 1 ≤ 140737488355328 := by omega
      have c0 := hbv.cell 0
      have f0 := hbv.frozen 0
      have lq := hbv.lt
      have hca : ∀ o, (wr.alloc o).drew.cell? ⟨q, 0, none⟩ = some v := fun o => (hbv.alloc o).drew.cell 0
      have hfa : ∀ o, (wr.alloc o).drew.frozen? ⟨q, 0, none⟩ = false := fun o => (hbv.alloc o).drew.frozen 0
      have HH := Lib.hid (And.intro hbv hbel)
      have hne : v.ownBlock ≠ some q := by
        intro e
        have := (hown.lt q e).1
        omega
      have hwb := wint_byte n i
      clear hbv hbel
      have hwb2 : ((n : Int)) / 2 ^ (8 * i) % 256 = ((UInt8.ofNat (n / 2 ^ (8 * i))).toNat : Int) := by rw [← hwb]; unfold IntKind.wrap; simp [IntKind.signed, IntKind.bits]
      have e1 : IntKind.i64.wrap (8 * (i : Int)) = 8 * (i : Int) := IntWalk.i64_in _ (by omega)
      have e2 : (0 : Int) ≤ 8 * (i : Int) := by omega
      have e3 : 8 * (i : Int) < 64 := by omega
      have e4 : (8 * (i : Int)).toNat = 8 * i := by omega
      generalize hx : ((UInt8.ofNat (n / 2 ^ (8 * i))).toNat : Int) = x at hwb hwb2
      have HX := Lib.hid hx
      clear hx
      go_wp2_with fail
      go_region_law
        ((refine step_append_lies _ (by rfl) _ _ _ (by rfl) B 5 i0 _ 1 1 Tryd.underlying46 hi0 hz0 hz1 hz2 rfl (by omega) v (l ++ Pl.le i n).length (Lib.byteCells (l ++ Pl.le i n)) (by rfl) ((hown.alloc _).drew)
            ⟨wr.heap.size, 0, none⟩ 1 1 [.int .u8 x] (by rfl) (by rfl) (World.news_of_block (cs := #[.int .u8 x]) (t := 5) (fr := (0, 0)) (heap_alloc_new wr _)) (by simp [Value.oneCell'])
            (by omega) hn1 hn2 (by simp; omega) (wr.heap.size + 1) (by simp) ?_; intro gg cap w1 hown1 hgrow hat1 hlt1; have cq : w1.cell? ⟨q, 0, none⟩ = some v := (hgrow.cell_far ⟨q, 0, none⟩ (by simp; omega) (Ne.symm hne)).trans (hca _); have fq : w1.frozen? ⟨q, 0, none⟩ = false := (hgrow.frozen_far ⟨q, 0, none⟩ (by simp; omega) (Ne.symm hne)).trans (hfa _)))
      all_goals
        clear c0 f0 hca hfa cq fq
        go_wp2
        go_roundg k
        case measure => omega
        case rel =>
          have hk : m - k = i + 1 := by have := HK.out; omega
          have hbq : Blk w1 q 48 #[v] := ((HH.out.1.alloc (.cells #[.int .u8 x] 5)).drew).grown hgrow (Ne.symm hne)
          have hd := Below.grown (B := q) (below_drew1' (below_alloc' HH.out.2 (.cells #[.int .u8 x] 5) (by omega))) hgrow (by simp; omega) (fun k hk => by have := (hown.lt k hk).1; omega)
          refine ⟨by rw [hk]; go_num, by have := HK.out; omega, ⟨hq, ?_, _, hbq.set_ 0 _, ?_⟩, hd.setCell (Nat.le_refl _) _⟩
          · have := hgrow.size
            simp at this ⊢
            omega
          · rw [hk, Pl.le_succ, ← List.append_assoc, wcells_snoc _ _ _ HX.out]
            refine own_set ?_ hq
            have h9 := hown1
            rw [hlen] at h9
            rw [List.length_append, hlen]
            exact h9
end Go.Proofs.YtefkodglfhonpaaDoor
