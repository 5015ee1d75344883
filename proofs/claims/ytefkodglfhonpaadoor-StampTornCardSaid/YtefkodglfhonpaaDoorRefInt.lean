/- The contracts of the references' Int and Bytes (layers 3, 5). Conditions: a leaf that can be. -/
import Derived.Test.YtefkodglfhonpaaDoorLeaf
namespace Go.Proofs.YtefkodglfhonpaaDoor
open Go.RowKit Go.PlainAid
def SL (l : List UInt8) : ByteArray := ⟨l.toArray⟩
theorem SL_size (l : List UInt8) : (SL l).size = l.length := by simp [SL, ByteArray.size]
theorem SL_app (a b : List UInt8) : SL a ++ SL b = SL (a ++ b) := by apply ByteArray.ext; simp [SL]
theorem SL_data (s : ByteArray) : SL s.data.toList = s := by apply ByteArray.ext; simp [SL]
theorem conv_one (w : World) (x : Int) : (convert 46 9 (.slice (some ⟨w.heap.size, 0, none⟩) 1 1)).run Tryd.prog (w.alloc (.cells #[.int .u8 x] 5)) = .ok (.string (strOfNums [x])) (w.alloc (.cells #[.int .u8 x] 5)) :=
  run_convert_bytes_arg (P := Tryd.prog) _ 46 5 Tryd.underlying46 Tryd.underlying5 w.heap.size 0 1 1 [x] rfl (fun i hi => by
    obtain rfl : i = 0 := by omega
    rw [(Blk.new w 5 #[.int .u8 x]).cell 0]
    rfl) 9 Tryd.underlying9
theorem nums_one (n i : Nat) : strOfNums [((n / 2 ^ (8 * i) : Nat) : Int) % 256] = SL [UInt8.ofNat (n / 2 ^ (8 * i))] := by
  unfold strOfNums SL
  simp only [List.map]
  have e : UInt8.ofNat (((n / 2 ^ (8 * i) : Nat) : Int) % 256).toNat = UInt8.ofNat (n / 2 ^ (8 * i)) := by
    apply UInt8.toNat_inj.1
    rw [UInt8.toNat_ofNat', UInt8.toNat_ofNat']
    omega
  rw [e]
structure RefIntInv (w : World) (n m : Nat) (vu vs vi : Value) (k : Nat) (wr : World) : Prop where
  vu : vu = .int .u64 ((n / 2 ^ (8 * (m - k)) : Nat) : Int)
  vs : vs = .string (SL (Pl.le (m - k) n))
  vi : vi = .int .i64 ((m - k : Nat) : Int)
  le : k ≤ m
  bel : Below w.heap.size w wr
set_option maxRecDepth 100000 in
set_option maxHeartbeats 4000000 in
theorem refint_any (m n : Nat) (w : World) (hm : m = 2 ∨ m = 8) (hn : n ≤ 1152921504606846976) :
    Calls Tryd.prog 18 #[.int .i64 m, .int .i64 n] w fun e w' => e = .returned (.string (SL (Pl.le m n))) ∧ Below w.heap.size w w' := by
  have hm1 : 1 ≤ m := by omega
  have hm8 : m ≤ 8 := by omega
  have HM := Lib.hid hm
  clear hm
  go_enter Tryd.func18, Tryd.ntmps18
  go_wp2_with fail
  go_loopg [6, 7, 8] m (fun k vu vs vi wr => RefIntInv w n m vu vs vi k wr)
  case atStart => exact ⟨by rw [Nat.sub_self, Nat.mul_zero, Nat.pow_zero, Nat.div_one], by rw [Nat.sub_self]; rfl, by rw [Nat.sub_self]; rfl, Nat.le_refl _, Below.refl _ _⟩
  case round =>
    obtain ⟨rfl, rfl, rfl, hle, hbel⟩ := hrel
    cases gk with
    | zero =>
      rw [Nat.sub_zero]
      have HB := Lib.hid hbel
      clear hbel hle
      go_wp2
      go_ret
      exact ⟨rfl, HB.out⟩
    | succ k =>
      obtain ⟨i, hi⟩ : ∃ i : Nat, m - (k + 1) = i := ⟨_, rfl⟩
      rw [hi]
      have him : i < m := by omega
      have hs := SL_size (Pl.le i n)
      rw [Pl.le_length] at hs
      have hcv := conv_one
      have hs2 : ∀ x : Int, (strOfNums [x]).size = 1 := fun x => rfl
      have hu : n / 2 ^ (8 * i) ≤ 1152921504606846976 := Nat.le_trans (Nat.div_le_self _ _) hn
      obtain ⟨u, hu2⟩ : ∃ u : Nat, n / 2 ^ (8 * i) = u := ⟨_, rfl⟩
      rw [hu2] at hu ⊢
      have hby : (u : Int) % 256 % 256 = (u : Int) % 256 := by omega
      have HK := Lib.hid (And.intro hi (And.intro hle (And.intro hu2 hbel)))
      clear hi hle hu2 hbel
      go_wp2
      go_roundg k
      case measure => omega
      case rel =>
        obtain ⟨k1, k2, k3, k4⟩ := HK.out
        have hk : m - k = i + 1 := by omega
        have e3 : n / 2 ^ (8 * (i + 1)) = u / 256 := by rw [show 8 * (i + 1) = 8 * i + 8 by omega, Nat.pow_add, ← Nat.div_div_eq_div_mul, k3]
        refine ⟨by rw [hk, e3]; go_num, ?_, by rw [hk]; go_num, by omega, below_alloc' k4 _ k4.size⟩
        rw [hk, Pl.le_succ, ← SL_app, ← nums_one, k3]
end Go.Proofs.YtefkodglfhonpaaDoor
