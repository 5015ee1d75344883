/- The contracts of tape.Reader. Conditions: few bytes, and as many as are asked for. -/
import Derived.Test.YtefkodglfhonpaaDoorTapeR
namespace Go.Proofs.YtefkodglfhonpaaDoor
open Go.RowKit Go.PlainAid
theorem read_any (s : ByteArray) (w : World) : Calls Tryd.prog 13 #[.string s] w fun e w' => e = .returned (.pointer (some ⟨w.heap.size, 0, none⟩)) ∧ w' = w.alloc (.cells #[.string s, .bool false] 54) := by
  go_enter Tryd.func13, Tryd.ntmps13
  go_wp2
  go_ret
  exact ⟨rfl, rfl⟩
theorem grown_set {w w' : World} {r : Nat} (h : w.grownBy w' (some r)) (i : Nat) (u : Value) : w.grownBy (w'.setCell ⟨r, i, none⟩ u) (some r) :=
  ⟨h.os, h.tape, h.output, by simpa [World.setCell] using h.size, fun k hk hne => (Below.heap_setCell w' ⟨r, i, none⟩ u k (fun e => hne (by rw [e]))).trans (h.block k hk hne)⟩
theorem grown_trans {a b c : World} {r : Option Nat} (h : a.grownBy b r) (k : b.grownBy c r) : a.grownBy c r :=
  ⟨k.os.trans h.os, k.tape.trans h.tape, k.output.trans h.output, Nat.le_trans h.size k.size, fun i hi hne => (k.block i (Nat.lt_of_lt_of_le hi h.size) hne).trans (h.block i hi hne)⟩
theorem grown_of_below {a b : World} {r : Option Nat} (h : Below a.heap.size a b) : a.grownBy b r := ⟨h.os, h.tape, h.output, h.size, fun i hi _ => h.block i hi⟩
set_option maxRecDepth 100000 in
theorem raw_s (s : ByteArray) (n r : Nat) (w : World) (hn : n ≤ s.size) (h : Blk w r 54 #[.string s, .bool false]) :
    Calls Tryd.prog 15 #[.pointer (some ⟨r, 0, none⟩), .int .i64 n] w fun e w' => e = .returned (.string (s.extract 0 n)) ∧ Blk w' r 54 #[.string (s.extract n s.size), .bool false] ∧ w.grownBy w' (some r) := by
  have c0 : w.cell? ⟨r, 0, none⟩ = some (.string s) := h.cell 0
  have c1 : w.cell? ⟨r, 1, none⟩ = some (.bool false) := h.cell 1
  have f0 := h.frozen 0
  have f1 := h.frozen 1
  have lr := h.lt
  have HH := Lib.hid h
  clear h
  go_enter Tryd.func15, Tryd.ntmps15
  go_wp2
  go_ret
  exact ⟨rfl, (HH.out.set_ 1 _).set_ 0 _, grown_set (grown_set (World.grownBy.refl w _) 1 _) 0 _⟩
theorem ofInt_wrap (n : Int) : BitVec.ofInt 64 (wrap64 n) = BitVec.ofInt 64 n := by
  apply BitVec.eq_of_toNat_eq
  rw [BitVec.toNat_ofInt, BitVec.toNat_ofInt]
  unfold wrap64
  congr 1
  simp only [show ((2 ^ 64 : Nat) : Int) = 18446744073709551616 by decide]
  omega
theorem or_wrap (a b : Nat) (ha : a < 18446744073709551616) (hb : b < 18446744073709551616) : bits .or .i64 (wrap64 (a : Int)) (wrap64 (b : Int)) = wrap64 ((a ||| b : Nat) : Int) := by
  show IntKind.i64.wrap ((BitVec.ofInt 64 (wrap64 (a : Int)) ||| BitVec.ofInt 64 (wrap64 (b : Int))).toNat : Int) = _
  rw [ofInt_wrap, ofInt_wrap, BitVec.toNat_or, ofInt_u64 a ha, ofInt_u64 b hb, i64_is]
/-- the number that bytes are read as -/
def num (l : List UInt8) : Int := wrap64 (Pl.lev l : Int)
theorem num_next (l : List UInt8) (b : UInt8) (i : Nat) (hl : l.length = i) (hi : i < 8) : bits .or .i64 (num l) (wrap64 ((b.toNat : Int) * 2 ^ (8 * i))) = num (l ++ [b]) := by
  have h1 := Pl.lev_lt l
  have h2 := b.toNat_lt
  rw [hl] at h1
  have h3 : (2 : Nat) ^ (8 * i) * 256 ≤ 2 ^ 64 := by rw [show (256 : Nat) = 2 ^ 8 by rfl, ← Nat.pow_add]; exact Nat.pow_le_pow_right (by omega) (by omega)
  have h4 : 2 ^ (8 * i) * b.toNat < 2 ^ 64 := Nat.lt_of_lt_of_le (Nat.mul_lt_mul_of_pos_left h2 (Nat.pow_pos (by omega))) h3
  have h64 : (2 : Nat) ^ 64 = 18446744073709551616 := by decide
  have h5 : (2 : Nat) ^ (8 * i) ≤ 2 ^ 64 := Nat.pow_le_pow_right (by omega) (by omega)
  have e : ((b.toNat : Int) * 2 ^ (8 * i)) = ((2 ^ (8 * i) * b.toNat : Nat) : Int) := by rw [Int.natCast_mul, Int.mul_comm]; simp
  unfold num
  rw [e, or_wrap _ _ (by omega) (by omega), Pl.lev_append, hl, Nat.or_comm, ← Nat.two_pow_add_eq_or_of_lt h1, Nat.add_comm]
  simp [Pl.lev]
theorem num_nil : num [] = 0 := by unfold num wrap64; decide
theorem ext_take (s : ByteArray) (n : Nat) : (s.extract 0 n).data.toList = s.data.toList.take n := by simp
theorem ext_drop (s : ByteArray) (n : Nat) : (s.extract n s.size).data.toList = s.data.toList.drop n := by
  simp
  rw [List.take_of_length_le (by simp)]
structure RInv (w1 : World) (g : Nat) (l : List UInt8) (vn vi : Value) (k : Nat) (wr : World) : Prop where
  vn : vn = .int .i64 (num (l.take (l.length - k)))
  vi : vi = .int .i64 ((l.length - k : Nat) : Int)
  le : k ≤ l.length
  cell : ∀ j, j < l.length → wr.cell? ⟨g, j, none⟩ = some (.int .u8 (l.getD j 0).toNat)
  same : wr = w1
set_option maxRecDepth 100000 in
set_option maxHeartbeats 4000000 in
theorem rint_s (s : ByteArray) (m r : Nat) (w : World) (hm : m = 2 ∨ m = 8) (hn : m ≤ s.size) (h : Blk w r 54 #[.string s, .bool false]) :
    Calls Tryd.prog 14 #[.pointer (some ⟨r, 0, none⟩), .int .i64 m] w fun e w' => e = .returned (.int .i64 (num (s.data.toList.take m))) ∧ Blk w' r 54 #[.string (s.extract m s.size), .bool false] ∧ w.grownBy w' (some r) := by
  have hm1 : 1 ≤ m := by omega
  have hm8 : m ≤ 8 := by omega
  have HM := Lib.hid hm
  obtain ⟨l, hl⟩ : ∃ l, l = s.data.toList.take m := ⟨_, rfl⟩
  have hll : l.length = m := by rw [hl, List.length_take]; have : s.data.toList.length = s.size := rfl; omega
  rw [← hl]
  have hsz : (s.extract 0 m).size = m := by rw [ByteArray.size_extract]; omega
  have HL := Lib.hid (And.intro hl (And.intro hll hsz))
  clear hm hl hll hsz
  go_enter Tryd.func14, Tryd.ntmps14
  go_wp2_with fail
  refine (raw_s s m r _ hn h).mono ?_
  rintro e w1 ⟨rfl, hb1, hg1⟩
  obtain ⟨c, W, hcv, hcell, hfz, hbel, hsz⟩ := conv_bytes w1 (s.extract 0 m)
  have hsz2 := HL.out.2.2
  rw [hsz2] at hcv
  have hcell2 : ∀ j, j < l.length → W.cell? ⟨w1.heap.size, j, none⟩ = some (.int .u8 (l.getD j 0).toNat) := by
    intro j hj
    rw [hcell j (by rw [hsz2, ← HL.out.2.1]; exact hj), ext_take, ← HL.out.1]
  have HW := Lib.hid (And.intro hcell2 (And.intro (hb1.below hbel hb1.lt) (grown_trans hg1 (grown_of_below hbel))))
  clear hcell2 hcell hfz hbel hsz hsz2 hb1 hg1 h
  go_wp2_with fail
  have HV := Lib.hid hcv
  clear hcv
  go_loopg [5, 15] m (fun k vn vi wr => RInv W w1.heap.size l vn vi k wr)
  case atStart => exact ⟨by rw [HL.out.2.1, Nat.sub_self, List.take_zero, num_nil], by rw [HL.out.2.1, Nat.sub_self]; rfl, by rw [HL.out.2.1]; exact Nat.le_refl _, HW.out.1, rfl⟩
  case round =>
    obtain ⟨rfl, rfl, hle, hcell, rfl⟩ := hrel
    have hll := HL.out.2.1
    rw [hll] at hle ⊢
    cases gk with
    | zero =>
      rw [Nat.sub_zero, List.take_of_length_le (by omega)]
      clear hle hcell hll
      go_wp2
      go_ret
      exact ⟨rfl, HW.out.2.1, HW.out.2.2⟩
    | succ k =>
      obtain ⟨i, hi⟩ : ∃ i : Nat, m - (k + 1) = i := ⟨_, rfl⟩
      rw [hi]
      have him : i < m := by omega
      obtain ⟨b, hb⟩ : ∃ b : UInt8, l.getD i 0 = b := ⟨_, rfl⟩
      have c0 := hcell i (by omega)
      rw [hb] at c0
      have hnx := num_next (l.take i) b i (by rw [List.length_take]; omega) (by omega)
      have hsn : l.take i ++ [b] = l.take (i + 1) := by
        rw [List.take_succ_eq_append_getElem (by omega)]
        rw [List.getD_eq_getElem?_getD, List.getElem?_eq_getElem (by omega)] at hb
        simp at hb
        rw [hb]
      rw [hsn] at hnx
      obtain ⟨x, hx⟩ : ∃ x, num (l.take i) = x := ⟨_, rfl⟩
      obtain ⟨y, hy⟩ : ∃ y, num (l.take (i + 1)) = y := ⟨_, rfl⟩
      rw [hx, hy] at hnx
      rw [hx]
      have hbb : wrap64 (b.toNat : Int) = b.toNat := IntWalk.wrap64_in _ (by have := b.toNat_lt; omega)
      rw [← hbb] at hnx
      have HN := Lib.hid hnx
      clear hnx hbb
      have HC := Lib.hid hcell
      have HK := Lib.hid (And.intro hi (And.intro hle (And.intro hy hll)))
      clear hi hle hy hb hx hsn hcell hll
      have e1 : IntKind.i64.wrap (8 * (i : Int)) = 8 * (i : Int) := IntWalk.i64_in _ (by omega)
      have e2 : (0 : Int) ≤ 8 * (i : Int) := by omega
      have e3 : 8 * (i : Int) < 64 := by omega
      have e4 : (8 * (i : Int)).toNat = 8 * i := by omega
      go_wp2
      go_roundg k
      case measure => omega
      case rel =>
        have hk : m - k = i + 1 := by have := HK.out; omega
        exact ⟨by rw [HK.out.2.2.2, hk, HK.out.2.2.1, HN.out], by rw [HK.out.2.2.2, hk]; go_num, by have := HK.out; omega, HC.out, rfl⟩
end Go.Proofs.YtefkodglfhonpaaDoor
