/- The contract of wide.Sum at three numbers. Conditions: numbers of 128 bits. -/
import Derived.Test.YtjjlfkbgieloeaaDoorNum
import Derived.Test.YtjjlfkbgieloeaaDoorKit
import Derived.LoopTactic
namespace Go.Proofs.YtjjlfkbgieloeaaDoor
open Go.RowKit
theorem add_zero (a : Nat) (w : World) (ha : a < M) : Calls Tryd.prog 23 #[.agg #[.int .u64 0, .int .u64 0], A a] w fun e w' => e = .returned (.tuple #[.agg #[.int .u64 (hi a), .int .u64 (lo a)], .bool true]) ∧ Below w.heap.size w w' := by
  have := add_yes 0 a w (by omega)
  rw [Nat.zero_add] at this
  exact this
def threes (a b c : Nat) : Array Value := #[.int .u64 (hi a), .int .u64 (lo a), .int .u64 (hi b), .int .u64 (lo b), .int .u64 (hi c), .int .u64 (lo c)]
def part (a b c : Nat) : Nat → Nat
  | 0 => 0
  | 1 => a
  | 2 => a + b
  | _ => a + b + c
structure SumInv (w : World) (a b c g i : Nat) (wr : World) : Prop where
  le : i ≤ 3
  small : part a b c i < M
  src : Blk wr g 24 (threes a b c)
  out : Blk wr (w.heap.size + 1) 24 #[.int .u64 (hi (part a b c i)), .int .u64 (lo (part a b c i))]
  res : Blk wr w.heap.size 24 #[.int .u64 0, .int .u64 0]
  bel : Below w.heap.size w wr
def term (a b c : Nat) : Nat → Nat
  | 0 => a
  | 1 => b
  | _ => c
theorem part_succ (a b c i : Nat) (h : i < 3) : part a b c (i + 1) = part a b c i + term a b c i := by
  rcases (by omega : i = 0 ∨ i = 1 ∨ i = 2) with rfl | rfl | rfl <;> simp [part, term]
theorem SumInv.at_ {w wr w1 : World} {a b c g i : Nat} {o : Obj} (s : SumInv w a b c g i wr) (hb : Below (wr.alloc o).heap.size (wr.alloc o) w1) :
    Blk w1 g 24 (threes a b c) ∧ Blk w1 (w.heap.size + 1) 24 #[.int .u64 (hi (part a b c i)), .int .u64 (lo (part a b c i))] ∧ Blk w1 w.heap.size 24 #[.int .u64 0, .int .u64 0] ∧ Below w.heap.size w w1 := by
  have l0 := s.src.lt
  have l1 := s.out.lt
  have l2 := s.res.lt
  refine ⟨(s.src.alloc o).below hb (by simp; omega), (s.out.alloc o).below hb (by simp; omega), (s.res.alloc o).below hb (by simp; omega), below_on (below_al s.bel o) hb⟩
theorem SumInv.next {w wr w1 : World} {a b c g i : Nat} {o : Obj} (s : SumInv w a b c g i wr) (hb : Below (wr.alloc o).heap.size (wr.alloc o) w1) (hg : g < w.heap.size) (h3 : i < 3) (hs : part a b c (i + 1) < M) :
    SumInv w a b c g (i + 1) ((w1.setCell ⟨w.heap.size + 1, 0, none⟩ (.int .u64 (hi (part a b c (i + 1))))).setCell ⟨w.heap.size + 1, 1, none⟩ (.int .u64 (lo (part a b c (i + 1))))) := by
  obtain ⟨h1, h2, h3', h4⟩ := s.at_ hb
  refine ⟨by omega, hs, (h1.far (p := ⟨w.heap.size + 1, 0, none⟩) (by simp; omega) _).far (p := ⟨w.heap.size + 1, 1, none⟩) (by simp; omega) _, (h2.set_ 0 _).set_ 1 _,
    (h3'.far (p := ⟨w.heap.size + 1, 0, none⟩) (by simp) _).far (p := ⟨w.heap.size + 1, 1, none⟩) (by simp) _, below_set (below_set h4 (by omega)) (by omega)⟩
theorem sum_new (w : World) (a b c : Nat) : Blk ((w.alloc (.cells #[.int .u64 0, .int .u64 0] 24)).alloc (.cells #[.int .u64 0, .int .u64 0] 24)) (w.heap.size + 1) 24 #[.int .u64 (hi (part a b c 0)), .int .u64 (lo (part a b c 0))] := by
  have h0 : hi (part a b c 0) = 0 := by show hi 0 = 0; decide
  have h1 : lo (part a b c 0) = 0 := by show lo 0 = 0; decide
  rw [h0, h1]
  have := Blk.new (w.alloc (.cells #[.int .u64 0, .int .u64 0] 24)) 24 #[.int .u64 0, .int .u64 0]
  simpa using this
def SumRel (w : World) (a b c g : Nat) (v : Value) (wr : World) : Prop := ∃ i : Nat, v = .int .i64 i ∧ SumInv w a b c g i wr
def SumPost (w : World) (s : Nat) (e : Ending) (w' : World) : Prop :=
  (s < M → e = .returned (.tuple #[.agg #[.int .u64 (hi s), .int .u64 (lo s)], .bool true])) ∧ (¬ s < M → e = .returned (.tuple #[.agg #[.int .u64 0, .int .u64 0], .bool false])) ∧ Below w.heap.size w w'
set_option maxHeartbeats 2000000 in
theorem sum_any (a b c g cap : Nat) (w : World) (ha : a < M) (hb : b < M) (hc : c < M) (hg : Blk w g 24 (threes a b c)) :
    Calls Tryd.prog 24 #[.slice (some ⟨g, 0, none⟩) 3 cap] w (SumPost w (a + b + c)) := by
  have HA := Lib.hid ha
  have HB := Lib.hid hb
  have HC := Lib.hid hc
  have hlt := hg.lt
  have HG := Lib.hid hg
  clear ha hb hc hg
  go_enter Tryd.func24, Tryd.ntmps24
  go_wp2_with fail
  go_loopw [10] (fun v wr => SumRel w a b c g v wr) (fun v _ => 3 - (intOf v).toNat)
  case atStart => exact ⟨0, rfl, by omega, by simp [part, M], (HG.out.alloc _).alloc _, sum_new w a b c, (Blk.new w 24 _).alloc _, below_al (below_al (Below.refl _ _) _) _⟩
  case round =>
    obtain ⟨i, rfl, hi⟩ := hrel
    have HI := Lib.hid hi
    obtain ⟨hle, _, hsrc, hout, hres, hbel⟩ := hi
    have c0 := hsrc.cell (2 * i)
    have c1 := hsrc.cell (2 * i + 1)
    have d0 := hout.cell 0
    have d1 := hout.cell 1
    have e0 := hres.cell 0
    have e1 := hres.cell 1
    have f0 := hout.frozen 0
    have f1 := hout.frozen 1
    have f2 := hres.frozen 0
    have f3 := hres.frozen 1
    have l0 := hsrc.lt
    have l1 := hout.lt
    have l2 := hres.lt
    clear hsrc hout hres hbel
    have hts := fun h => part_succ a b c i h
    have HT := Lib.hid hts
    clear hts
    by_cases h3 : i < 3
    · have hterm : term a b c i < M := by
        have := HA.out; have := HB.out; have := HC.out
        rcases (by omega : i = 0 ∨ i = 1 ∨ i = 2) with rfl | rfl | rfl <;> assumption
      have HTM := Lib.hid hterm
      have g0 : wr.cell? ⟨g, i * 2, none⟩ = some (.int .u64 (hi (term a b c i))) := by
        rw [Nat.mul_comm, c0]
        rcases (by omega : i = 0 ∨ i = 1 ∨ i = 2) with rfl | rfl | rfl <;> rfl
      have g1 : wr.cell? ⟨g, i * 2 + 1, none⟩ = some (.int .u64 (lo (term a b c i))) := by
        rw [Nat.mul_comm, c1]
        rcases (by omega : i = 0 ∨ i = 1 ∨ i = 2) with rfl | rfl | rfl <;> rfl
      clear c0 c1 hterm
      by_cases hs : part a b c i + term a b c i < M
      · have HS := Lib.hid hs
        clear hs
        rw [← HT.out h3] at HS
        go_wp2_with (go_at_call 23; (with_reducible refine (add_yes (part a b c i) (term a b c i) _ ?_).mono ?_); (rw [← HT.out h3]; exact HS.out); rw [← HT.out h3]; rintro e w1 ⟨rfl, hb1⟩; obtain ⟨k1, k2, k3, k4⟩ := HI.out.at_ hb1; have m0 := k2.cell 0; have m1 := k2.cell 1; have n0 := k2.frozen 0; have n1 := k2.frozen 1; clear k1 k2 k3 k4)
        go_roundw
        case rel => exact ⟨i + 1, by go_num, HI.out.next hb1 hlt (by omega) HS.out⟩
        case measure => simp [intOf]; omega
      · have HS := Lib.hid hs
        clear hs
        have HP := Lib.hid (show part a b c i < M by assumption)
        go_wp2_with (go_at_call 23; (with_reducible refine (add_no (part a b c i) (term a b c i) _ ?_ ?_ ?_).mono ?_); (exact HP.out); (exact HTM.out); (have := HS.out; omega); rintro e w1 ⟨rfl, hb1⟩; obtain ⟨k1, k2, k3, k4⟩ := HI.out.at_ hb1; have m0 := k2.cell 0; have m1 := k2.cell 1; have n0 := k2.frozen 0; have n1 := k2.frozen 1; have p0 := k3.cell 0; have p1 := k3.cell 1; have q0 := k3.frozen 0; have q1 := k3.frozen 1; clear k1 k2 k3)
        have hno : ¬ a + b + c < M := by
          have := HS.out
          rcases (by omega : i = 0 ∨ i = 1 ∨ i = 2) with rfl | rfl | rfl <;> simp only [part, term] at this <;> omega
        exact bodyPost_ret (v := .tuple #[.agg #[.int .u64 0, .int .u64 0], .bool false]) (by simp [results, Tryd.results24, go_sem, p0, p1]) rfl ⟨fun h => absurd h hno, fun _ => rfl, by repeat (with_reducible first | exact Below.refl _ _ | assumption | refine below_al ?_ _ | refine below_set ?_ (by omega) | refine below_drewN ?_ | refine below_dr ?_ | refine below_on ?_ (by assumption))⟩
    · obtain rfl : i = 3 := by omega
      simp only [part] at d0 d1
      go_wp2
      have hyes : a + b + c < M := by simpa only [part] using HI.out.small
      exact bodyPost_ret (v := .tuple #[.agg #[.int .u64 (hi (a + b + c)), .int .u64 (lo (a + b + c))], .bool true]) (by simp [results, Tryd.results24, go_sem, e0, e1]) rfl ⟨fun _ => rfl, fun h => absurd hyes h, below_set (below_set HI.out.bel (by omega)) (by omega)⟩
end Go.Proofs.YtjjlfkbgieloeaaDoor
