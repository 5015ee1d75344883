/- The contract of wide.FromBytes: the number of the first sixteen bytes. Conditions: none. -/
import Derived.Test.YtjjlfkbgieloeaaDoorByt
import Derived.PlainAid
import Derived.Laws.Bits64b
namespace Go.Proofs.YtjjlfkbgieloeaaDoor
open Go.RowKit Go.PlainAid
/-- a byte as a natural number; bytes as a number, the lowest first -/
def bn (s : ByteArray) (k : Nat) : Nat := (bt s k).toNat
def low (s : ByteArray) (o : Nat) : Nat → Nat
  | 0 => 0
  | i + 1 => low s o i + 2 ^ (8 * i) * bn s (o + i)
theorem bn_lt (s : ByteArray) (k : Nat) : bn s k < 256 := by unfold bn; have := bt_le s k; have := bt_nonneg s k; omega
theorem bt_bn (s : ByteArray) (k : Nat) : bt s k = (bn s k : Nat) := by unfold bn; have := bt_nonneg s k; omega
theorem low_lt (s : ByteArray) (o : Nat) : ∀ i, low s o i < 2 ^ (8 * i)
  | 0 => by simp [low]
  | i + 1 => by
    have h1 := low_lt s o i
    have h2 := bn_lt s (o + i)
    have e : 2 ^ (8 * (i + 1)) = 2 ^ (8 * i) * 256 := by rw [show 8 * (i + 1) = 8 * i + 8 by omega, Nat.pow_add]
    have h3 : 2 ^ (8 * i) * (bn s (o + i) + 1) ≤ 2 ^ (8 * i) * 256 := Nat.mul_le_mul_left _ (by omega)
    rw [Nat.mul_add, Nat.mul_one] at h3
    show low s o i + 2 ^ (8 * i) * bn s (o + i) < _
    omega
theorem or_next (s : ByteArray) (o i : Nat) (h : i < 8) : bits .or .u64 ((low s o i : Nat) : Int) (IntKind.u64.wrap (bt s (o + i) * 2 ^ (8 * i))) = ((low s o (i + 1) : Nat) : Int) := by
  have h1 := low_lt s o i
  have h2 := low_lt s o (i + 1)
  have h3 : (2 : Nat) ^ (8 * (i + 1)) ≤ 2 ^ 64 := Nat.pow_le_pow_right (by omega) (by omega)
  have hs : low s o (i + 1) = low s o i + 2 ^ (8 * i) * bn s (o + i) := rfl
  have h64 : (2 : Nat) ^ 64 = 18446744073709551616 := by decide
  have hc : (2 : Int) ^ (8 * i) = ((2 ^ (8 * i) : Nat) : Int) := by simp
  have hw : IntKind.u64.wrap (bt s (o + i) * 2 ^ (8 * i)) = ((2 ^ (8 * i) * bn s (o + i) : Nat) : Int) := by
    rw [bt_bn, hc, IntKind.wrap_u64, ← Int.natCast_mul, Nat.mul_comm]
    omega
  rw [hw, bits_or_u64_nat _ _ (by omega) (by omega), Nat.or_comm, ← Nat.two_pow_add_eq_or_of_lt h1, hs, Nat.add_comm]
theorem or_next' (s : ByteArray) (o i : Nat) (h : i < 8) : bits .or .u64 ((low s o i : Nat) : Int) (IntKind.u64.wrap (IntKind.u64.wrap (bt s (o + i)) * 2 ^ (8 * i))) = ((low s o (i + 1) : Nat) : Int) := by
  have h1 := bt_nonneg s (o + i)
  have h2 := bt_le s (o + i)
  rw [show IntKind.u64.wrap (bt s (o + i)) = bt s (o + i) from u64_nonneg h1 (by omega)]
  exact or_next s o i h
structure FromInv (w : World) (s : ByteArray) (v : Value) (k : Nat) (wr : World) : Prop where
  v : v = .int .i64 ((8 - k : Nat) : Int)
  le : k ≤ 8
  res : Blk wr w.heap.size 24 #[.int .u64 0, .int .u64 0]
  num : Blk wr (w.heap.size + 1) 24 #[.int .u64 (low s 8 (8 - k) : Nat), .int .u64 (low s 0 (8 - k) : Nat)]
  bel : Below w.heap.size w wr
theorem from_no (s : ByteArray) (w : World) (h : s.size < 16) :
    Calls Tryd.prog 21 #[.string s] w fun e w' => e = .returned (.tuple #[.agg #[.int .u64 0, .int .u64 0], .bool false]) ∧ Below w.heap.size w w' := by
  go_enter Tryd.func21, Tryd.ntmps21
  go_wp2
  exact bodyPost_ret (v := .tuple #[.agg #[.int .u64 0, .int .u64 0], .bool false]) (by simp [results, Tryd.results21, go_sem]) rfl ⟨rfl, by repeat (with_reducible first | exact Below.refl _ _ | assumption | refine below_al ?_ _ | refine below_set ?_ (by omega))⟩
set_option maxHeartbeats 4000000 in
set_option maxRecDepth 100000 in
theorem from_yes (s : ByteArray) (w : World) (h : 16 ≤ s.size) :
    Calls Tryd.prog 21 #[.string s] w fun e w' => e = .returned (.tuple #[.agg #[.int .u64 (low s 8 8 : Nat), .int .u64 (low s 0 8 : Nat)], .bool true]) ∧ Below w.heap.size w w' := by
  have hbt := get_bt s
  go_enter Tryd.func21, Tryd.ntmps21
  go_wp2_with fail
  go_loopg [10] 8 (fun k v wr => FromInv w s v k wr)
  case atStart =>
    refine ⟨rfl, by omega, (Blk.new w 24 _).alloc _, ?_, below_al (below_al (Below.refl _ _) _) _⟩
    have := Blk.new (w.alloc (.cells #[.int .u64 0, .int .u64 0] 24)) 24 #[.int .u64 0, .int .u64 0]
    simpa [low] using this
  case round =>
    obtain ⟨rfl, hle, hres, hnum, hbel⟩ := hrel
    have c0 := hnum.cell 0
    have c1 := hnum.cell 1
    have f0 := hnum.frozen 0
    have f1 := hnum.frozen 1
    have l1 := hnum.lt
    cases gk with
    | zero =>
      have r0 := hres.cell 0
      have r1 := hres.cell 1
      have g0 := hres.frozen 0
      have g1 := hres.frozen 1
      have l0 := hres.lt
      have HB := Lib.hid hbel
      clear hres hnum hbel hle
      simp only [Nat.sub_zero] at *
      go_wp2
      exact bodyPost_ret (v := .tuple #[.agg #[.int .u64 (low s 8 8 : Nat), .int .u64 (low s 0 8 : Nat)], .bool true]) (by simp [results, Tryd.results21, go_sem, r0, r1]) rfl ⟨rfl, below_set (below_set HB.out (by omega)) (by omega)⟩
    | succ k =>
      obtain ⟨i, hi⟩ : ∃ i : Nat, 8 - (k + 1) = i := ⟨_, rfl⟩
      rw [hi] at hnum c0 c1 ⊢
      have hi8 : i < 8 := by omega
      have HK := Lib.hid (And.intro hi hle)
      clear hi hle
      have HH := Lib.hid (And.intro hres (And.intro hnum hbel))
      clear hres hnum hbel
      have e0 := or_next' s 0 i hi8
      rw [Nat.zero_add] at e0
      have e8 := or_next' s 8 i hi8
      go_wp2_with fail
      go_region
      go_wp2_with fail
      go_region
      go_wp2
      go_roundg k
      case measure => omega
      case rel =>
        obtain ⟨h1, h2, h3⟩ := HH.out
        have hk : 8 - k = i + 1 := by have := HK.out; omega
        refine ⟨by rw [hk]; simp, by have := HK.out; omega, ?_, ?_, ?_⟩
        · exact ((h1.far (p := ⟨w.heap.size + 1, 1, none⟩) (by simp) _).far (p := ⟨w.heap.size + 1, 0, none⟩) (by simp) _).drew.drew
        · rw [hk]
          exact ((h2.set_ 1 _).set_ 0 _).drew.drew
        · exact below_dr (below_dr (below_set (below_set h3 (by omega)) (by omega)))
/-- bytes of a text that stands ahead of another -/
theorem bt_data (s : ByteArray) (k : Nat) : bt s k = ((s.data.getD k 0).toNat : Int) := by
  unfold bt Array.getD
  by_cases h : k < s.size
  · rw [dif_pos h, dif_pos (show k < s.data.size from h)]
    rfl
  · rw [dif_neg h, dif_neg (show ¬ k < s.data.size from h)]
    rfl
theorem bn_data (s : ByteArray) (k : Nat) : bn s k = (s.data.getD k 0).toNat := by unfold bn; rw [bt_data]; rfl
theorem bn_app (s t : ByteArray) (k : Nat) (h : k < s.size) : bn (s ++ t) k = bn s k := by
  rw [bn_data, bn_data]
  have h1 : (s ++ t).data = s.data ++ t.data := ByteArray.data_append ..
  have h2 : k < s.data.size := h
  rw [h1]
  have h3 : k < (s.data ++ t.data).size := by rw [Array.size_append]; omega
  simp only [Array.getD, h2, h3, dif_pos]
  congr 1
  exact Array.getElem_append_left h2
theorem low_of (s : ByteArray) (o x : Nat) : ∀ n, (∀ j, j < n → bn s (o + j) = x / 2 ^ (8 * j) % 256) → low s o n = x % 2 ^ (8 * n)
  | 0, _ => by simp [low, Nat.mod_one]
  | n + 1, h => by
    have ih := low_of s o x n (fun j hj => h j (by omega))
    show low s o n + 2 ^ (8 * n) * bn s (o + n) = _
    rw [ih, h n (by omega), show 8 * (n + 1) = 8 * n + 8 by omega, Nat.pow_add, Nat.mod_mul]
theorem bytesOf_size (a : Nat) : (bytesOf a).size = 16 := by rfl
theorem by_nat (a j : Nat) : ((UInt8.ofNat (byI a j).toNat).toNat : Nat) = a / 2 ^ (8 * j) % 256 := by
  unfold byI
  rw [Int.toNat_natCast, UInt8.toNat_ofNat']
  omega
theorem bn_bytes (a j : Nat) (h : j < 16) : bn (bytesOf a) j = a / 2 ^ (8 * j) % 256 := by
  rw [bn_data]
  rcases (by omega : j = 0 ∨ j = 1 ∨ j = 2 ∨ j = 3 ∨ j = 4 ∨ j = 5 ∨ j = 6 ∨ j = 7 ∨ j = 8 ∨ j = 9 ∨ j = 10 ∨ j = 11 ∨ j = 12 ∨ j = 13 ∨ j = 14 ∨ j = 15) with rfl | rfl | rfl | rfl | rfl | rfl | rfl | rfl | rfl | rfl | rfl | rfl | rfl | rfl | rfl | rfl <;> exact by_nat a _
theorem low_bytes (a : Nat) (ha : a < M) (s : ByteArray) (hs : ∀ j, j < 16 → bn s j = a / 2 ^ (8 * j) % 256) : ((low s 8 8 : Nat) : Int) = hi a ∧ ((low s 0 8 : Nat) : Int) = lo a := by
  have h64 : (2 : Nat) ^ (8 * 8) = 18446744073709551616 := by decide
  have h1 := low_of s 0 a 8 (fun j hj => by rw [Nat.zero_add]; exact hs j (by omega))
  have h2 := low_of s 8 (a / 18446744073709551616) 8 (fun j hj => by
    rw [hs (8 + j) (by omega), Nat.div_div_eq_div_mul, ← h64, ← Nat.pow_add, show 8 * 8 + 8 * j = 8 * (8 + j) by omega])
  rw [h64] at h1 h2
  rw [h1, h2]
  unfold hi lo M at *
  omega
theorem from_bytes (a : Nat) (s t : ByteArray) (w : World) (ha : a < M) (hs : s = bytesOf a) :
    Calls Tryd.prog 21 #[.string (s ++ t)] w fun e w' => e = .returned (.tuple #[.agg #[.int .u64 (hi a), .int .u64 (lo a)], .bool true]) ∧ Below w.heap.size w w' := by
  subst hs
  have h16 := bytesOf_size a
  obtain ⟨h1, h2⟩ := low_bytes a ha (bytesOf a ++ t) (fun j hj => by rw [bn_app _ _ _ (by omega)]; exact bn_bytes a j hj)
  rw [← h1, ← h2]
  exact from_yes _ w (by rw [ByteArray.size_append]; omega)
end Go.Proofs.YtjjlfkbgieloeaaDoor
