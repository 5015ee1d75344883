/- The contract of the reference's Bytes (layer 5). Conditions: a leaf that can be. -/
import Derived.Test.YtefkodglfhonpaaDoorRefInt
namespace Go.Proofs.YtefkodglfhonpaaDoor
open Go.RowKit Go.PlainAid
/-- a text's sum's four bytes -/
def crc (l : List UInt8) : List UInt8 := Crc.bytes (Crc.sum 0#32 l)
theorem crc_length (l : List UInt8) : (crc l).length = 4 := rfl
theorem ref_Sum0 (s : ByteArray) (hs : s.size ≤ 4096) (w : World) :
    Calls Tryd.prog 20 #[.int .u32 0, .string s] w fun e w' => e = .returned (.int .u32 (I (Crc.sum 0#32 s.data.toList))) ∧ w = w' := ref_Sum 0#32 s hs w
theorem below_on {w a b : World} (h : Below w.heap.size w a) (k : Below a.heap.size a b) : Below w.heap.size w b := h.trans (k.mono h.size)
/-- a sector's first bytes, with so many noughts -/
def pre (n i : Nat) (d : List UInt8) (j : Nat) : List UInt8 := Pl.le 8 n ++ (Pl.le 2 i ++ (Pl.le 2 d.length ++ (d ++ List.replicate j 0)))
theorem pre_size (n i : Nat) (d : List UInt8) (j : Nat) : (SL (pre n i d j)).size = 12 + d.length + j := by
  rw [SL_size]; unfold pre; simp only [List.length_append, Pl.le_length, List.length_replicate]; omega
theorem pre_next (n i : Nat) (d : List UInt8) (j : Nat) : SL (pre n i d j) ++ ⟨#[0]⟩ = SL (pre n i d (j + 1)) := by
  rw [show (⟨#[0]⟩ : ByteArray) = SL [0] from rfl, SL_app]
  unfold pre
  simp only [List.append_assoc, List.replicate_succ']
theorem pre_head (n i : Nat) (d : List UInt8) : pre n i d (104 - d.length) = Pl.head n i d := rfl
structure RefBytInv (W : World) (n i : Nat) (d : List UInt8) (v : Value) (k : Nat) (wr : World) : Prop where
  v : v = .string (SL (pre n i d (104 - d.length - k)))
  le : k ≤ 104 - d.length
  same : wr = W
set_option maxRecDepth 100000 in
set_option maxHeartbeats 4000000 in
theorem refbytes_any (n i : Nat) (d : ByteArray) (w : World) (hn : n ≤ 1152921504606846976) (hi : i < 4096) (hd : d.size ≤ 104) :
    Calls Tryd.prog 9 #[.int .i64 n, .int .i64 i, .string d] w fun e w' => e = .returned (.string (SL (Pl.enc crc n i d.data.toList))) ∧ Below w.heap.size w w' := by
  obtain ⟨l, hl⟩ : ∃ l, d.data.toList = l := ⟨_, rfl⟩
  have hdl : d = SL l := by rw [← hl, SL_data]
  rw [hl]
  have hll : d.size = l.length := by rw [hdl, SL_size]
  rw [hll] at hd
  have s1 : (SL (Pl.le 8 n)).size = 8 := by rw [SL_size, Pl.le_length]
  have s2 : (SL (Pl.le 2 i)).size = 2 := by rw [SL_size, Pl.le_length]
  have s3 : (SL (Pl.le 2 l.length)).size = 2 := by rw [SL_size, Pl.le_length]
  have s4 : (SL (Pl.le 8 n) ++ SL (Pl.le 2 i)).size = 10 := by rw [ByteArray.size_append]; omega
  have s5 : (SL (Pl.le 8 n) ++ SL (Pl.le 2 i) ++ SL (Pl.le 2 l.length)).size = 12 := by rw [ByteArray.size_append]; omega
  subst hdl
  clear hll hl
  have hsl := SL_size l
  have HI := Lib.hid hi
  have R2 : ∀ (w : World) (k : Nat), k ≤ 1152921504606846976 → Calls Tryd.prog 18 #[.int .i64 2, .int .i64 k] w fun e w' => e = .returned (.string (SL (Pl.le 2 k))) ∧ Below w.heap.size w w' := fun w k hk => refint_any 2 k w (.inl rfl) hk
  have R8 : ∀ (w : World), Calls Tryd.prog 18 #[.int .i64 8, .int .i64 n] w fun e w' => e = .returned (.string (SL (Pl.le 8 n))) ∧ Below w.heap.size w w' := fun w => refint_any 8 n w (.inr rfl) hn
  have HR2 := Lib.hid R2
  have HR8 := Lib.hid R8
  have HN := Lib.hid hn
  clear hi hn R2 R8
  go_enter Tryd.func9, Tryd.ntmps9
  go_wp2_with fail
  refine (HR8.out _).mono ?_
  rintro e w1 ⟨rfl, hb1⟩
  go_wp2_with fail
  refine (HR2.out _ i (by have := HI.out; omega)).mono ?_
  rintro e w2 ⟨rfl, hb2⟩
  go_wp2_with fail
  refine (HR2.out _ l.length (by omega)).mono ?_
  rintro e w3 ⟨rfl, hb3⟩
  go_wp2_with fail
  have e0 : SL (Pl.le 8 n) ++ SL (Pl.le 2 i) ++ SL (Pl.le 2 l.length) ++ SL l = SL (pre n i l 0) := by
    rw [SL_app, SL_app, SL_app]; unfold pre; simp
  rw [e0]
  have HB := Lib.hid (below_on (below_on hb1 hb2) hb3)
  clear s1 s2 s3 s4 s5 e0 hb1 hb2 hb3
  go_loopg [7] (104 - l.length) (fun k v wr => RefBytInv w3 n i l v k wr)
  case atStart => exact ⟨by rw [Nat.sub_self], Nat.le_refl _, rfl⟩
  case round =>
    obtain ⟨rfl, hle, rfl⟩ := hrel
    cases gk with
    | zero =>
      rw [Nat.sub_zero]
      have hz := pre_size n i l (104 - l.length)
      have hz2 : (SL (pre n i l (104 - l.length))).size = 116 := by rw [hz]; omega
      rw [pre_head] at hz2 ⊢
      have s6 : ∀ c, (bytesS c).size = 4 := fun c => by rfl
      have s7 : ∀ c, (SL (Pl.head n i l) ++ bytesS c).size = 120 := fun c => by rw [ByteArray.size_append, s6]; omega
      have s8 : (SL (Pl.le 8 n)).size = 8 := by rw [SL_size, Pl.le_length]
      clear hz hle
      go_wp2_with fail
      refine (ref_Sum0 _ (by omega) _).mono ?_
      rintro e w4 ⟨rfl, rfl⟩
      go_wp2_with fail
      refine (ref_Bytes _ _).mono ?_
      rintro e w5 ⟨rfl, hb5⟩
      go_wp2_with fail
      refine (HR8.out _).mono ?_
      rintro e w6 ⟨rfl, hb6⟩
      go_wp2
      go_ret
      refine ⟨ret_str ?_, below_on (below_on HB.out hb5) hb6⟩
      have e1 : (SL (Pl.head n i l)).data.toList = Pl.head n i l := by simp [SL]
      rw [e1]
      show SL (Pl.head n i l) ++ SL (crc (Pl.head n i l)) ++ SL (Pl.le 8 n) = _
      rw [SL_app, SL_app]
      unfold Pl.enc
      rw [List.append_assoc]
    | succ k =>
      obtain ⟨j, hj⟩ : ∃ j : Nat, 104 - l.length - (k + 1) = j := ⟨_, rfl⟩
      rw [hj]
      have hz := pre_size n i l j
      have h1 : (SL (pre n i l j)).size < 116 := by omega
      have hz2 : (⟨#[0]⟩ : ByteArray).size = 1 := rfl
      have HK := Lib.hid (And.intro hj hle)
      clear hj hle hz
      go_wp2
      go_roundg k
      case measure => omega
      case rel =>
        have hk : 104 - l.length - k = j + 1 := by have := HK.out; omega
        exact ⟨by rw [hk, pre_next], by have := HK.out; omega, rfl⟩
end Go.Proofs.YtefkodglfhonpaaDoor
