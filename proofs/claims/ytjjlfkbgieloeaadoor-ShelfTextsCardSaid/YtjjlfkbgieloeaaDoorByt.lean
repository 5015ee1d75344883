/- The contract of wide.Bytes: sixteen bytes, the lowest first. Conditions: none. -/
import Derived.Test.YtjjlfkbgieloeaaDoorBits
import Derived.Test.YtjjlfkbgieloeaaDoorShow
namespace Go.Proofs.YtjjlfkbgieloeaaDoor
open Go.RowKit
/-- the byte at a place -/
def byI (a j : Nat) : Int := (a / 2 ^ (8 * j) % 256 : Nat)
/-- the array after some rounds -/
def bcell_ (a i j : Nat) : Value := .int .u8 (if j % 8 < i then byI a j else 0)
def arr (a i : Nat) : Array Value := #[bcell_ a i 0, bcell_ a i 1, bcell_ a i 2, bcell_ a i 3, bcell_ a i 4, bcell_ a i 5, bcell_ a i 6, bcell_ a i 7, bcell_ a i 8, bcell_ a i 9, bcell_ a i 10, bcell_ a i 11, bcell_ a i 12, bcell_ a i 13, bcell_ a i 14, bcell_ a i 15]
theorem arr_lo (a i : Nat) (h : i < 8) : (arr a i)[i]? = some (.int .u8 0) := by
  rcases (by omega : i = 0 ∨ i = 1 ∨ i = 2 ∨ i = 3 ∨ i = 4 ∨ i = 5 ∨ i = 6 ∨ i = 7) with rfl | rfl | rfl | rfl | rfl | rfl | rfl | rfl <;> rfl
theorem arr_hi (a i : Nat) (h : i < 8) : (arr a i)[8 + i]? = some (.int .u8 0) := by
  rcases (by omega : i = 0 ∨ i = 1 ∨ i = 2 ∨ i = 3 ∨ i = 4 ∨ i = 5 ∨ i = 6 ∨ i = 7) with rfl | rfl | rfl | rfl | rfl | rfl | rfl | rfl <;> rfl
theorem arr_next (a i : Nat) (h : i < 8) : ((arr a i).setIfInBounds i (.int .u8 (byI a i))).setIfInBounds (8 + i) (.int .u8 (byI a (8 + i))) = arr a (i + 1) := by
  rcases (by omega : i = 0 ∨ i = 1 ∨ i = 2 ∨ i = 3 ∨ i = 4 ∨ i = 5 ∨ i = 6 ∨ i = 7) with rfl | rfl | rfl | rfl | rfl | rfl | rfl | rfl <;> rfl
theorem by_lo (a i : Nat) (h : i < 8) : lo a / 2 ^ (8 * i) % 256 = byI a i := by
  unfold lo byI
  have e : (18446744073709551616 : Nat) = 2 ^ (8 * i) * 2 ^ (64 - 8 * i) := by rw [← Nat.pow_add, show 8 * i + (64 - 8 * i) = 64 by omega]
  have h2 : a % 18446744073709551616 / 2 ^ (8 * i) = a / 2 ^ (8 * i) % 2 ^ (64 - 8 * i) := by rw [e, Nat.mod_mul_right_div_self]
  have h3 : (256 : Nat) ∣ 2 ^ (64 - 8 * i) := ⟨2 ^ (56 - 8 * i), by rw [show (256 : Nat) = 2 ^ 8 by rfl, ← Nat.pow_add]; congr 1; omega⟩
  have hc : (2 : Int) ^ (8 * i) = ((2 ^ (8 * i) : Nat) : Int) := by simp
  rw [hc, ← Int.natCast_ediv, h2]
  have h4 : a / 2 ^ (8 * i) % 2 ^ (64 - 8 * i) % 256 = a / 2 ^ (8 * i) % 256 := Nat.mod_mod_of_dvd _ h3
  omega
theorem by_hi (a i : Nat) : hi a / 2 ^ (8 * i) % 256 = byI a (8 + i) := by
  unfold hi byI
  have hc : (2 : Int) ^ (8 * i) = ((2 ^ (8 * i) : Nat) : Int) := by simp
  rw [hc, ← Int.natCast_ediv, Nat.div_div_eq_div_mul, show (18446744073709551616 : Nat) * 2 ^ (8 * i) = 2 ^ (8 * (8 + i)) by rw [show (18446744073709551616 : Nat) = 2 ^ 64 by rfl, ← Nat.pow_add]; congr 1; omega]
  omega
/-- the sixteen bytes -/
def nums (a : Nat) : List Int := [byI a 0, byI a 1, byI a 2, byI a 3, byI a 4, byI a 5, byI a 6, byI a 7, byI a 8, byI a 9, byI a 10, byI a 11, byI a 12, byI a 13, byI a 14, byI a 15]
def bytesOf (a : Nat) : ByteArray := strOfNums (nums a)
theorem arr_all (a i : Nat) (h : i < 16) : (arr a 8)[i]? = some (.int .u8 ((nums a).getD i 0)) := by
  rcases (by omega : i = 0 ∨ i = 1 ∨ i = 2 ∨ i = 3 ∨ i = 4 ∨ i = 5 ∨ i = 6 ∨ i = 7 ∨ i = 8 ∨ i = 9 ∨ i = 10 ∨ i = 11 ∨ i = 12 ∨ i = 13 ∨ i = 14 ∨ i = 15) with rfl | rfl | rfl | rfl | rfl | rfl | rfl | rfl | rfl | rfl | rfl | rfl | rfl | rfl | rfl | rfl <;> rfl
theorem arr_text {w : World} {g a : Nat} (h : Blk w g 58 (arr a 8)) : (convert 59 9 (.slice (some ⟨g, 0, none⟩) 16 16)).run Tryd.prog w = .ok (.string (bytesOf a)) w :=
  run_convert_bytes_arg (P := Tryd.prog) w 59 5 Tryd.underlying59 Tryd.underlying5 g 0 16 16 (nums a) rfl (fun i hi => by
    rw [Nat.zero_add, h.cell i]
    exact arr_all a i hi) 9 Tryd.underlying9
theorem arr_zero (a : Nat) : arr a 0 = #[.int .u8 0, .int .u8 0, .int .u8 0, .int .u8 0, .int .u8 0, .int .u8 0, .int .u8 0, .int .u8 0, .int .u8 0, .int .u8 0, .int .u8 0, .int .u8 0, .int .u8 0, .int .u8 0, .int .u8 0, .int .u8 0] := rfl
structure BytInv (w : World) (a : Nat) (v : Value) (k : Nat) (wr : World) : Prop where
  v : v = .int .i64 ((8 - k : Nat) : Int)
  le : k ≤ 8
  num : Blk wr w.heap.size 24 #[.int .u64 (hi a), .int .u64 (lo a)]
  arr : Blk wr (w.heap.size + 1) 58 (arr a (8 - k))
  bel : Below w.heap.size w wr
set_option maxHeartbeats 4000000 in
set_option maxRecDepth 100000 in
theorem wbytes_any (a : Nat) (w : World) (ha : a < M) :
    Calls Tryd.prog 20 #[A a] w fun e w' => e = .returned (.string (bytesOf a)) ∧ Below w.heap.size w w' := by
  have HA := Lib.hid ha
  clear ha
  go_enter Tryd.func20, Tryd.ntmps20
  go_wp2_with fail
  go_loopg [5] 8 (fun k v wr => BytInv w a v k wr)
  case atStart =>
    refine ⟨rfl, by omega, (Blk.new w 24 _).alloc _, ?_, below_al (below_al (Below.refl _ _) _) _⟩
    rw [Nat.sub_self, arr_zero]
    have := Blk.new (w.alloc (.cells #[.int .u64 (hi a), .int .u64 (lo a)] 24)) 58 (arr a 0)
    simpa [arr_zero] using this
  case round =>
    obtain ⟨rfl, hle, hnum, harr, hbel⟩ := hrel
    cases gk with
    | zero =>
      have hcv := arr_text harr
      have l1 := harr.lt
      have HB := Lib.hid hbel
      clear harr hnum hbel hle
      go_wp2
      go_ret
      exact ⟨rfl, HB.out⟩
    | succ k =>
      obtain ⟨i, hi⟩ : ∃ i : Nat, 8 - (k + 1) = i := ⟨_, rfl⟩
      rw [hi] at harr ⊢
      have hi8 : i < 8 := by omega
      have HK := Lib.hid (And.intro hi hle)
      clear hi hle
      have c0 := hnum.cell 0
      have c1 := hnum.cell 1
      have l0 := hnum.lt
      have l1 := harr.lt
      have f0 := harr.frozen i
      have d0 := (harr.cell i).trans (arr_lo a i hi8)
      have d1 := (harr.cell (8 + i)).trans (arr_hi a i hi8)
      have f1 := harr.frozen (8 + i)
      have HH := Lib.hid (And.intro hnum (And.intro harr hbel))
      clear hnum harr hbel
      go_wp2_with fail
      go_region
      go_wp2
      go_roundg k
      case measure => omega
      case rel =>
        obtain ⟨h1, h2, h3⟩ := HH.out
        have hk : 8 - k = i + 1 := by have := HK.out; omega
        refine ⟨by rw [hk]; simp, by have := HK.out; omega, ?_, ?_, ?_⟩
        · exact ((h1.far (p := ⟨w.heap.size + 1, i, none⟩) (by simp) _).far (p := ⟨w.heap.size + 1, 8 + i, none⟩) (by simp) _).drew
        · rw [hk, ← arr_next a i hi8, ← by_lo a i hi8, ← by_hi a i]
          exact ((h2.set_ i _).set_ (8 + i) _).drew
        · exact below_dr (below_set (below_set h3 (by omega)) (by omega))
end Go.Proofs.YtjjlfkbgieloeaaDoor
