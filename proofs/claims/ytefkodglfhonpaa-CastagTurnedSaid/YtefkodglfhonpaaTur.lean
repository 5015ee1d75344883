/- The walk of the law CastagTurned. Conditions: those of its row. -/
import Derived.Test.YtefkodglfhonpaaApa
namespace Go.Proofs.Ytefkodglfhonpaa
open Go.RowKit
def tb (w : BitVec 32) (m : Nat) : UInt8 := ⟨(w >>> (8 * m)).setWidth 8⟩
def tl (l : List UInt8) (k : Nat) (w : BitVec 32) : Nat → List UInt8
  | 0 => l
  | m + 1 => (tl l k w m).set (k + m) ((tl l k w m).getD (k + m) 0 ^^^ tb w m)
theorem tl_length (l : List UInt8) (k : Nat) (w : BitVec 32) (m : Nat) : (tl l k w m).length = l.length := by
  induction m with
  | zero => rfl
  | succ m ih => simp [tl, ih]
theorem set_in (p q : List UInt8) (a x : UInt8) (k : Nat) (hk : p.length = k) : (p ++ a :: q).set k x = p ++ x :: q := by
  subst hk; simp
theorem get_in (p q : List UInt8) (a : UInt8) (k : Nat) (hk : p.length = k) : (p ++ a :: q).getD k 0 = a := by
  subst hk; simp
theorem tl_four (p q : List UInt8) (a b c d : UInt8) (w : BitVec 32) (k : Nat) (hk : p.length = k) :
    tl (p ++ [a, b, c, d] ++ q) k w 4 = p ++ [a ^^^ tb w 0, b ^^^ tb w 1, c ^^^ tb w 2, d ^^^ tb w 3] ++ q := by
  have e0 : p ++ [a, b, c, d] ++ q = p ++ a :: ([b, c, d] ++ q) := by simp
  have h1 : tl (p ++ [a, b, c, d] ++ q) k w 1 = (p ++ [a ^^^ tb w 0]) ++ b :: ([c, d] ++ q) := by
    rw [e0]
    simp only [tl, Nat.add_zero]
    rw [get_in p _ a k hk, set_in p _ a _ k hk]
    simp
  have h2 : tl (p ++ [a, b, c, d] ++ q) k w 2 = (p ++ [a ^^^ tb w 0, b ^^^ tb w 1]) ++ c :: ([d] ++ q) := by
    rw [tl, h1, get_in _ _ b (k + 1) (by simp [hk]), set_in _ _ b _ (k + 1) (by simp [hk])]
    simp
  have h3 : tl (p ++ [a, b, c, d] ++ q) k w 3 = (p ++ [a ^^^ tb w 0, b ^^^ tb w 1, c ^^^ tb w 2]) ++ d :: q := by
    rw [tl, h2, get_in _ _ c (k + 2) (by simp [hk]), set_in _ _ c _ (k + 2) (by simp [hk])]
    simp
  rw [tl, h3, get_in _ _ d (k + 3) (by simp [hk]), set_in _ _ d _ (k + 3) (by simp [hk])]
  simp
theorem split4 (l : List UInt8) (k : Nat) (h : k + 4 ≤ l.length) : ∃ (p q : List UInt8) (a b c d : UInt8), l = p ++ [a, b, c, d] ++ q ∧ p.length = k := by
  have e : l = l.take k ++ l.drop k := (List.take_append_drop k l).symm
  match hd : l.drop k with
  | [] => have := congrArg List.length hd; simp at this; omega
  | [_] => have := congrArg List.length hd; simp at this; omega
  | [_, _] => have := congrArg List.length hd; simp at this; omega
  | [_, _, _] => have := congrArg List.length hd; simp at this; omega
  | a :: b :: c :: d :: q =>
    refine ⟨l.take k, q, a, b, c, d, ?_, by simp; omega⟩
    rw [hd] at e
    exact e.trans (by simp)
/-- a text that holds, four bytes of it turned: it doesn't -/
theorem turned_not (s : List UInt8) (k : Nat) (hk : k ≤ s.length) (w : BitVec 32) (hw : w ≠ 0#32) :
    (Crc.bytes (Crc.sum 0#32 ((tl (s ++ Crc.bytes (Crc.sum 0#32 s)) k w 4).take s.length)) == (tl (s ++ Crc.bytes (Crc.sum 0#32 s)) k w 4).drop s.length) = false := by
  rw [beq_eq_false_iff_ne]
  intro h
  have h1 := Crc.holds_resid h
  rw [List.take_append_drop] at h1
  have h2 := Crc.holds_resid (x := s) rfl
  obtain ⟨p, q, a, b, c, d, e, hp⟩ := split4 (s ++ Crc.bytes (Crc.sum 0#32 s)) k (by simp [Crc.bytes]; omega)
  rw [e, tl_four p q a b c d w k hp] at h1
  rw [e] at h2
  exact Crc.turned p q a b c d w _ hw (h1.trans h2.symm)
theorem tb_I (w : BitVec 32) (m : Nat) (n : Int) (hn : n = 2 ^ (8 * m)) : I w / n % 256 = ((tb w m).toNat : Int) := by
  subst hn
  unfold I tb
  have e : ((⟨(w >>> (8 * m)).setWidth 8⟩ : UInt8).toNat) = w.toNat / 2 ^ (8 * m) % 256 := by
    show ((w >>> (8 * m)).setWidth 8).toNat = _
    rw [BitVec.toNat_setWidth, BitVec.toNat_ushiftRight, Nat.shiftRight_eq_div_pow]
  rw [e]
  simp
/-- bytes that lie in a row of the call's own -/
structure Row (w : World) (g : Nat) (l : List UInt8) : Prop where
  cell : ∀ j, j < l.length → w.cell? ⟨g, j, none⟩ = some (.int .u8 (l.getD j 0).toNat)
  free : ∀ j, j < l.length → w.frozen? ⟨g, j, none⟩ = false
theorem Row.set {w : World} {g : Nat} {l : List UInt8} (h : Row w g l) (i : Nat) (x : UInt8) (v : Int) (hv : v = x.toNat) : Row (w.setCell ⟨g, i, none⟩ (.int .u8 v)) g (l.set i x) := by
  subst hv
  refine ⟨conv_set w g l i x h.cell, fun j hj => ?_⟩
  rw [World.frozen?_setCell]
  exact h.free j (by simpa using hj)
theorem tl_row {w : World} {g : Nat} {l : List UInt8} {k m : Nat} {t : BitVec 32} {v : Int} (h : Row w g (tl l k t m)) (hv : v = (((tl l k t m).getD (k + m) 0 ^^^ tb t m).toNat : Int)) :
    Row (w.setCell ⟨g, k + m, none⟩ (.int .u8 v)) g (tl l k t (m + 1)) := h.set (k + m) _ v hv
theorem turned_false (s : ByteArray) (k : Nat) (hk : k ≤ s.size) (w : BitVec 32) (hw : w ≠ 0#32) : holdsB ⟨(tl (s.data.toList ++ Crc.bytes (Crc.sum 0#32 s.data.toList)) k w 4).toArray⟩ = false := by
  have hl : (⟨(tl (s.data.toList ++ Crc.bytes (Crc.sum 0#32 s.data.toList)) k w 4).toArray⟩ : ByteArray).size = s.data.toList.length + 4 := by
    show (tl (s.data.toList ++ Crc.bytes (Crc.sum 0#32 s.data.toList)) k w 4).toArray.size = _
    rw [List.size_toArray, tl_length]
    simp [Crc.bytes]
  rw [holdsB_eq _ (by omega), hl, Nat.add_sub_cancel]
  exact turned_not s.data.toList k (by simpa using hk) w hw
set_option maxHeartbeats 1000000 in
theorem turned_in (s : ByteArray) (at_ : Int) (tw : BitVec 32) (w : World) (h : s.size ≤ 300) (hw : tw ≠ 0#32) :
    Calls Try.prog 6 #[.string s, .int .i64 at_, .int .u32 (I tw)] w fun e w' => e = .returned (.bool true) ∧ Below w.heap.size w w' := by
  have h2 : (I tw == 0) = false := by
    have := I_beq tw 0#32
    rw [show I 0#32 = 0 from rfl] at this
    rw [this, beq_eq_false_iff_ne.2 hw]
  have h4 : s.size ≤ 4096 := by omega
  have hz : (bytesS (Crc.sum 0#32 s.data.toList)).size = 4 := bytesS_size _
  have hS : (s ++ bytesS (Crc.sum 0#32 s.data.toList)).size = s.size + 4 := by rw [ByteArray.size_append, hz]
  obtain ⟨k, hk, hidx⟩ := index_of at_ (s.size + 1) (by omega) (by omega)
  rw [show ((s.size + 1 : Nat) : Int) = (s.size : Int) + 4 - 3 by omega] at hidx
  have HK := Lib.hid hk
  clear hk
  go_enter Try.func6, Try.ntmps6
  go_wp2_with (first | (go_at_call 8; refine (alive_true _).mono ?_; rintro e w' ⟨rfl, rfl⟩) | (go_at_call 9; refine (castag_Sum0 _ (by assumption) _).mono ?_; rintro e w' ⟨rfl, rfl⟩) | (go_at_call 13; refine (castag_Bytes _ _).mono ?_; rintro e w1 ⟨rfl, hb1⟩; obtain ⟨c, W, hcv, hcell, hfz, hbel, hsz⟩ := conv_bytes w1 (s ++ bytesS (Crc.sum 0#32 s.data.toList)); rw [hS] at hcv; have HC := Lib.hid hcell; have HF := Lib.hid hfz; have HB := Lib.hid hbel; have HZ := Lib.hid hsz; clear hcell hfz hbel hsz))
  obtain ⟨X, hX⟩ : ∃ X : List UInt8, s.data.toList ++ Crc.bytes (Crc.sum 0#32 s.data.toList) = X := ⟨_, rfl⟩
  rw [hidx]
  have HX := Lib.hid hX
  have HI := Lib.hid hidx
  have HV := Lib.hid hcv
  have HS := Lib.hid hS
  clear hX hidx hcv hS
  go_loopw [9] (fun i wr => ∃ m : Nat, m ≤ 4 ∧ i = .int .i64 m ∧ Row wr w1.heap.size (tl X k tw m) ∧ Below w1.heap.size w1 wr) (fun i _ => 4 - (intOf i).toNat)
  case atStart =>
    refine ⟨0, by omega, rfl, ⟨?_, ?_⟩, HB.out⟩
    · intro j hj
      have h1 := HC.out j (by rw [HS.out]; simp [tl, ← HX.out, Crc.bytes] at hj; omega)
      rw [h1, data_append, tl, ← HX.out]
      rfl
    · intro j hj
      exact HF.out j (by rw [HS.out]; simp [tl, ← HX.out, Crc.bytes] at hj; omega)
  case round =>
    obtain ⟨m, hm, rfl, hrow, hbw⟩ := hrel
    have hk1 : k < s.size + 1 := HK.out
    have hlen : (tl X k tw m).length = s.size + 4 := by rw [tl_length, ← HX.out]; simp [Crc.bytes]
    have hk0 : (0 : Int) ≤ (k : Int) := by omega
    have hk2 : (k : Int) ≤ (s.size : Int) := by omega
    by_cases hlt : m < 4
    · have hc := hrow.cell (k + m) (by omega)
      have hf := hrow.free (k + m) (by omega)
      have hsh := tb_I tw m (2 ^ (8 * m)) rfl
      have hx := u8_xor_I ((tl X k tw m).getD (k + m) 0) (tb tw m)
      have HR := Lib.hid hrow
      have HW := Lib.hid hbw
      have HL := Lib.hid hlen
      clear hrow hbw hlen
      generalize hy : (tl X k tw m).getD (k + m) 0 = y at hc hx
      have HY := Lib.hid hy
      clear hy
      generalize hzz : tb tw m = z at hsh hx
      have HZZ := Lib.hid hzz
      clear hzz
      rcases (by omega : m = 0 ∨ m = 1 ∨ m = 2 ∨ m = 3) with rfl | rfl | rfl | rfl
      · simp only [Nat.mul_zero, Int.pow_zero, Int.ediv_one, Nat.add_zero] at hsh hc hf
        go_wp2
        go_roundw
        case rel => exact ⟨1, by omega, rfl, tl_row HR.out (by rw [← HZZ.out, ← HY.out, UInt8.toNat_xor]), HW.out.setCell (Nat.le_refl _) _⟩
        case measure => simp [intOf]
      · simp only [Nat.mul_one, Int.reducePow] at hsh
        go_wp2
        go_roundw
        case rel => exact ⟨2, by omega, rfl, tl_row HR.out (by rw [← HZZ.out, ← HY.out, UInt8.toNat_xor]), HW.out.setCell (Nat.le_refl _) _⟩
        case measure => simp [intOf]
      · simp only [Nat.reduceMul, Int.reducePow] at hsh
        go_wp2
        go_roundw
        case rel => exact ⟨3, by omega, rfl, tl_row HR.out (by rw [← HZZ.out, ← HY.out, UInt8.toNat_xor]), HW.out.setCell (Nat.le_refl _) _⟩
        case measure => simp [intOf]
      · simp only [Nat.reduceMul, Int.reducePow] at hsh
        go_wp2
        go_roundw
        case rel => exact ⟨4, by omega, rfl, tl_row HR.out (by rw [← HZZ.out, ← HY.out, UInt8.toNat_xor]), HW.out.setCell (Nat.le_refl _) _⟩
        case measure => simp [intOf]
    · obtain rfl : m = 4 := by omega
      have htext := conv_text wr w1.heap.size c _ hrow.cell
      rw [hlen] at htext
      have hnot := turned_false s k (by omega) tw hw
      rw [HX.out] at hnot
      have hsz4 : (⟨(tl X k tw 4).toArray⟩ : ByteArray).size = s.size + 4 := by
        show (tl X k tw 4).toArray.size = _
        simpa using hlen
      have hnot2 := Lib.hid hnot
      have HS4 := Lib.hid hsz4
      have HW := Lib.hid hbw
      clear hrow hbw hlen hnot hsz4
      go_wp2_with (go_at_call 12; refine (holds_many _ ?_ ?_ _).mono ?_; (rw [HS4.out]; omega); (rw [HS4.out]; omega); rw [hnot2.out]; rintro e w2 ⟨rfl, hb2⟩)
      go_ret
      refine ⟨rfl, ?_⟩
      exact below_on (below_on hb1 HW.out) hb2
theorem turned_out (s : ByteArray) (at_ tw : Int) (w : World) (h : 300 < s.size ∨ tw = 0) :
    Calls Try.prog 6 #[.string s, .int .i64 at_, .int .u32 tw] w fun e w' => e = .returned (.bool true) ∧ Below w.heap.size w w' := by
  have hb : 300 < s.size ∨ s.size ≤ 300 ∧ (tw == 0) = true := by
    by_cases e : 300 < s.size
    · exact Or.inl e
    · exact Or.inr ⟨by omega, by simpa using h.resolve_left e⟩
  clear h
  rcases hb with h1 | ⟨h1, h2⟩
  all_goals
    go_enter Try.func6, Try.ntmps6
    go_wp2_with (go_at_call 8; refine (alive_true _).mono ?_; rintro e w' ⟨rfl, rfl⟩)
    go_ret
    exact ⟨rfl, Below.refl _ _⟩
theorem walkCastagTurned (a0 : ByteArray) (a1 : Int) (a2 : Int) (_ : a0.size ≤ maxLen) (_ : (Lit.int .i64 a1).wf = true) (w2 : (Lit.int .u32 a2).wf = true) (w : World) :
    Calls Try.prog 6 #[.string a0, .int .i64 a1, .int .u32 a2] w fun e w' => e = .returned (.bool true) ∧ Below w.heap.size w w' := by
  by_cases h : 300 < a0.size ∨ a2 = 0
  · exact turned_out a0 a1 a2 w h
  · obtain ⟨t, rfl⟩ := I_of a2 w2
    refine turned_in a0 a1 t w (by omega) (fun e => h (Or.inr ?_))
    rw [e]; rfl
end Go.Proofs.Ytefkodglfhonpaa
