/- The contract of the reference's Bytes: sixteen bytes, the lowest first. Conditions: none. -/
import Derived.Test.YtjjlfkbgieloeaaDoorFrom
namespace Go.Proofs.YtjjlfkbgieloeaaDoor
open Go.RowKit Go.PlainAid
/-- the bits of a byte that have been taken -/
def inn (a i j : Nat) : Nat := a / 2 ^ (8 * i + j) % 2 ^ (8 - j)
theorem inn_next (a i j : Nat) (h : j < 8) : ((inn a i j : Nat) : Int) = 2 * ((inn a i (j + 1) : Nat) : Int) + bitI a (8 * i + j) := by
  unfold inn bitI
  have h1 := bit_split a (8 * i + j)
  rw [show 8 - j = (8 - (j + 1)) + 1 by omega, Nat.pow_succ, Nat.mul_comm (2 ^ _) 2, Nat.mod_mul, show 8 * i + (j + 1) = 8 * i + j + 1 by omega]
  rw [show a / 2 ^ (8 * i + j) / 2 = a / 2 ^ (8 * i + j + 1) by rw [Nat.div_div_eq_div_mul]; rfl]
  omega
theorem inn_small (a i j : Nat) : inn a i (j + 1) < 128 := by
  have h1 : inn a i (j + 1) < 2 ^ (8 - (j + 1)) := Nat.mod_lt _ (Nat.pow_pos (by omega))
  have h2 : (2 : Nat) ^ (8 - (j + 1)) ≤ 2 ^ 7 := Nat.pow_le_pow_right (by omega) (by omega)
  have : (2 : Nat) ^ 7 = 128 := by decide
  omega
theorem inn_first (a i : Nat) : inn a i 8 = 0 := by simp [inn, Nat.mod_one]
theorem inn_last (a i : Nat) : ((inn a i 0 : Nat) : Int) = byI a i := rfl
def pre (a i : Nat) : ByteArray := strOfNums ((List.range i).map (byI a))
theorem pre_next (a i : Nat) : pre a i ++ strOfNums [byI a i] = pre a (i + 1) := by
  unfold pre strOfNums
  rw [List.range_succ]
  apply ByteArray.ext
  simp
theorem pre_all (a : Nat) : pre a 16 = bytesOf a := rfl
theorem pre_size (a i : Nat) : (pre a i).size = i := by unfold pre strOfNums; simp [ByteArray.size]
theorem conv_one (w : World) (x : Int) : (convert 59 9 (.slice (some ⟨w.heap.size, 0, none⟩) 1 1)).run Tryd.prog (w.alloc (.cells #[.int .u8 x] 5)) = .ok (.string (strOfNums [x])) (w.alloc (.cells #[.int .u8 x] 5)) :=
  run_convert_bytes_arg (P := Tryd.prog) _ 59 5 Tryd.underlying59 Tryd.underlying5 w.heap.size 0 1 1 [x] rfl (fun i hi => by
    obtain rfl : i = 0 := by omega
    rw [(Blk.new w 5 #[.int .u8 x]).cell 0]
    rfl) 9 Tryd.underlying9
theorem bit_at (a i m : Nat) (w : World) (h2 : 8 * i + m < 128) :
    Calls Tryd.prog 41 #[A a, .int .i64 (8 * (i : Int) + (m : Int))] w fun e w' => e = .returned (.int .i64 (bitI a (8 * i + m))) ∧ Below w.heap.size w w' := by
  rw [show 8 * (i : Int) + (m : Int) = ((8 * i + m : Nat) : Int) by omega]
  exact bit_is a (8 * i + m) _ w h2 rfl
structure RefOut (w : World) (a : Nat) (v3 v4 : Value) (k : Nat) (wr : World) : Prop where
  v3 : v3 = .string (pre a (16 - k))
  v4 : v4 = .int .i64 ((16 - k : Nat) : Int)
  le : k ≤ 16
  num : Blk wr w.heap.size 24 #[.int .u64 (hi a), .int .u64 (lo a)]
  bel : Below w.heap.size w wr
structure RefIn (w : World) (a i : Nat) (v5 v6 : Value) (k : Nat) (wr : World) : Prop where
  v5 : v5 = .int .i64 ((inn a i k : Nat) : Int)
  v6 : v6 = .int .i64 ((k : Nat) - 1 : Int)
  le : k ≤ 8
  num : Blk wr w.heap.size 24 #[.int .u64 (hi a), .int .u64 (lo a)]
  bel : Below w.heap.size w wr
set_option maxHeartbeats 4000000 in
set_option maxRecDepth 100000 in
theorem refbytes_any (a : Nat) (w : World) :
    Calls Tryd.prog 22 #[A a] w fun e w' => e = .returned (.string (bytesOf a)) ∧ Below w.heap.size w w' := by
  go_enter Tryd.func22, Tryd.ntmps22
  go_wp2_with fail
  go_loopg [3, 4] 16 (fun k v3 v4 wr => RefOut w a v3 v4 k wr)
  case atStart => exact ⟨rfl, rfl, by omega, Blk.new w 24 _, below_al (Below.refl _ _) _⟩
  case round =>
    obtain ⟨rfl, rfl, hle, hnum, hbel⟩ := hrel
    cases gk with
    | zero =>
      have HB := Lib.hid hbel
      clear hnum hbel hle
      go_wp2
      go_ret
      exact ⟨rfl, HB.out⟩
    | succ k =>
      obtain ⟨i, hi⟩ : ∃ i : Nat, 16 - (k + 1) = i := ⟨_, rfl⟩
      rw [hi]
      have hi8 : i < 16 := by omega
      have HK := Lib.hid (And.intro hi hle)
      clear hi hle
      have HH := Lib.hid (And.intro hnum hbel)
      clear hnum hbel
      go_wp2_with fail
      rw [show decide ((i : Int) < 16) = true by rw [decide_eq_true_eq]; omega]
      go_loopg [5, 6] 8 (fun k v5 v6 wr => RefIn w a i v5 v6 k wr)
      case atStart => exact ⟨by rw [inn_first]; rfl, rfl, by omega, HH.out.1, HH.out.2⟩
      case round =>
        obtain ⟨rfl, rfl, hle2, hnum2, hbel2⟩ := hrel
        have c0 := cell_of0 hnum2
        have c1 := cell_of1 hnum2
        have l0 := hnum2.lt
        have HH2 := Lib.hid (And.intro hnum2 hbel2)
        clear hnum2 hbel2
        cases gk with
        | zero =>
          rw [inn_last]
          have hs := pre_size a i
          have hs2 : (strOfNums [byI a i]).size = 1 := rfl
          have hby : byI a i % 256 = byI a i := by unfold byI; omega
          have hcv := conv_one
          go_wp2
          go_roundg k
          case measure => omega
          case rel =>
            have hk : 16 - k = i + 1 := by have := HK.out; omega
            exact ⟨by rw [hk, pre_next], by rw [hk]; simp, by have := HK.out; omega, HH2.out.1.alloc _, below_al HH2.out.2 _⟩
        | succ j =>
          obtain ⟨m, hm⟩ : ∃ m : Nat, ((j + 1 : Nat) : Int) - 1 = m := ⟨j, by omega⟩
          have hmj : m = j := by omega
          rw [hm]
          subst hmj
          have hn := inn_small a i m
          have hb := bitI_cases a (8 * i + m)
          have hr := inn_next a i m (by omega)
          have hm2 : 8 * i + m < 128 := by omega
          have HR := Lib.hid (And.intro hr hle2)
          clear hr hle2 hm
          generalize inn a i (m + 1) = n at *
          go_wp2_with (go_at_call 41; (with_reducible refine (bit_at a i m _ hm2).mono ?_); rintro e w1 ⟨rfl, hb1⟩)
          go_roundg m
          case measure => omega
          case rel => exact ⟨by rw [HR.out.1], rfl, by have := HR.out.2; omega, Blk.carry HH2.out.1 hb1, below_on HH2.out.2 hb1⟩
end Go.Proofs.YtjjlfkbgieloeaaDoor
