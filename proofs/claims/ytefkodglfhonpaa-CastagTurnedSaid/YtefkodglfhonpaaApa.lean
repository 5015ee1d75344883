/- The walk of the law CastagApart. Conditions: those of its row. -/
import Derived.Test.YtefkodglfhonpaaConv
namespace Go.Proofs.Ytefkodglfhonpaa
open Go.RowKit
theorem I_inj {a b : BitVec 32} (h : I a = I b) : a = b := by
  unfold I at h
  exact BitVec.eq_of_toNat_eq (by omega)
theorem I_beq (a b : BitVec 32) : (I a == I b) = (a == b) := by
  by_cases h : a = b
  · subst h; rw [beq_self_eq_true, beq_self_eq_true]
  · have : ¬ I a = I b := fun e => h (I_inj e)
    rw [beq_eq_false_iff_ne.2 h, beq_eq_false_iff_ne.2 this]
theorem apart_q (a b : BitVec 32) (s : List UInt8) : (!((I (Crc.sum a s) == I (Crc.sum b s)) == (I a == I b))) = false := by
  rw [I_beq, I_beq]
  by_cases h : a = b
  · subst h; simp
  · have : ¬ Crc.sum a s = Crc.sum b s := fun e => h (Crc.sum_inj s e)
    rw [beq_eq_false_iff_ne.2 h, beq_eq_false_iff_ne.2 this]
    rfl
theorem turn_ne (a : BitVec 32) (l : List UInt8) (j : Nat) (hj : j < l.length) (u : UInt8) (hu : u ≠ 0) : Crc.sum a (l.set j (l.getD j 0 ^^^ u)) ≠ Crc.sum a l := by
  intro h
  have h1 : Crc.reg (~~~a) (l.set j (l.getD j 0 ^^^ u)) = Crc.reg (~~~a) l := by
    have := congrArg (~~~ ·) h
    simpa [Crc.sum] using this
  have e1 : l.set j (l.getD j 0 ^^^ u) = l.take j ++ [l.getD j 0 ^^^ u] ++ l.drop (j + 1) := by
    rw [List.set_eq_take_append_cons_drop, if_pos hj]
    simp
  have e2 : l = l.take j ++ [l.getD j 0] ++ l.drop (j + 1) := by
    have : l.getD j 0 = l[j] := by rw [List.getD_eq_getElem?_getD, List.getElem?_eq_getElem hj]; rfl
    rw [this]
    simp
  have h2 : Crc.reg (~~~a) (l.take j ++ [l.getD j 0 ^^^ u] ++ l.drop (j + 1)) = Crc.reg (~~~a) (l.take j ++ [l.getD j 0] ++ l.drop (j + 1)) := by rw [← e1, ← e2]; exact h1
  rw [Crc.reg_append, Crc.reg_append, Crc.reg_append, Crc.reg_append] at h2
  have h3 := Crc.reg_inj _ h2
  have h4 : l.getD j 0 ^^^ u = l.getD j 0 := Crc.byte_inj h3
  apply hu
  have h5 : l.getD j 0 ^^^ (l.getD j 0 ^^^ u) = l.getD j 0 ^^^ l.getD j 0 := by rw [h4]
  rw [← UInt8.xor_assoc] at h5
  simpa using h5
theorem index_of (at_ : Int) (n : Nat) (hn : 0 < n) (hn2 : n ≤ 4096) : ∃ j : Nat, j < n ∧ wrap64 ((IntKind.u64.wrap at_).tmod n) = (j : Int) := by
  have h0 : 0 ≤ IntKind.u64.wrap at_ := by rw [IntKind.wrap_u64]; omega
  rw [Int.tmod_eq_emod_of_nonneg h0]
  have h1 := Int.emod_nonneg (IntKind.u64.wrap at_) (show (n : Int) ≠ 0 by omega)
  have h2 := Int.emod_lt_of_pos (IntKind.u64.wrap at_) (show (0 : Int) < n by omega)
  generalize IntKind.u64.wrap at_ % (n : Int) = x at h1 h2
  refine ⟨x.toNat, by omega, ?_⟩
  unfold wrap64
  omega
set_option maxHeartbeats 400000 in
theorem apart_in (a b : BitVec 32) (s : ByteArray) (at_ : Int) (u : UInt8) (w : World) (h : s.size ≤ 2048) (h0 : 0 < s.size) (hu : u ≠ 0) :
    Calls Try.prog 4 #[.int .u32 (I a), .int .u32 (I b), .string s, .int .i64 at_, .int .u8 u.toNat] w fun e w' => e = .returned (.bool true) ∧ Below w.heap.size w w' := by
  have hq := apart_q a b s.data.toList
  have h1 : ((s.size : Int) == 0) = false := by
    have : ¬ (s.size : Int) = 0 := by omega
    simpa using this
  have h2 : (((u.toNat : Nat) : Int) == 0) = false := by
    have : ¬ u.toNat = 0 := fun e => hu (UInt8.toNat_inj.1 (by rw [e]; rfl))
    simpa using this
  obtain ⟨c, W, hcv, hcell, hfz, hbel, hsz⟩ := conv_bytes w s
  obtain ⟨j, hj, hidx⟩ := index_of at_ s.size h0 (by omega)
  have hc1 := hcell j hj
  have hf1 := hfz j hj
  have hset := conv_set W w.heap.size s.data.toList j (s.data.toList.getD j 0 ^^^ u) (fun i hi => hcell i (by simpa using hi))
  have htext := conv_text _ w.heap.size c _ hset
  rw [List.length_set, show s.data.toList.length = s.size by simp, UInt8.toNat_xor] at htext
  have hx := u8_xor_I (s.data.toList.getD j 0) u
  have hne := turn_ne a s.data.toList j (by simpa using hj) u hu
  have hne2 : (I (Crc.sum a (s.data.toList.set j (s.data.toList.getD j 0 ^^^ u))) == I (Crc.sum a s.data.toList)) = false := by
    rw [I_beq]; simpa using hne
  have hls : (⟨(s.data.toList.set j (s.data.toList.getD j 0 ^^^ u)).toArray⟩ : ByteArray).size ≤ 4096 := by
    show (s.data.toList.set j (s.data.toList.getD j 0 ^^^ u)).toArray.size ≤ 4096
    simp; omega
  have hld : (⟨(s.data.toList.set j (s.data.toList.getD j 0 ^^^ u)).toArray⟩ : ByteArray).data.toList = s.data.toList.set j (s.data.toList.getD j 0 ^^^ u) := rfl
  have h4 : s.size ≤ 4096 := by omega
  have hj0 : (0 : Int) ≤ (j : Int) := by omega
  have hj1 : (j : Int) < (s.size : Int) := by omega
  generalize s.data.toList.getD j 0 = x at hc1 hx hne hne2 hls hld htext
  generalize hT : s.data.toList.set j (x ^^^ u) = T at htext hne hne2 hls hld
  have HB := Lib.hid hbel
  have HZ := Lib.hid hsz
  have HI := Lib.hid hidx
  clear hcell hfz hbel hsz hset hT hu hne
  go_enter Try.func4, Try.ntmps4
  go_wp2_with (first | (go_at_call 8; refine (alive_true _).mono ?_; rintro e w' ⟨rfl, rfl⟩) | (go_at_call 9; refine (castag_Sum _ _ (by assumption) _).mono ?_; rintro e w' ⟨rfl, rfl⟩))
  go_ret
  refine ⟨ret_bool (by show (!(_ == _)) = true; rw [hne2]; rfl), ?_⟩
  exact HB.out.setCell (Nat.le_refl _) _
theorem apart_out (a b : Int) (s : ByteArray) (at_ u : Int) (w : World) (h : 2048 < s.size) :
    Calls Try.prog 4 #[.int .u32 a, .int .u32 b, .string s, .int .i64 at_, .int .u8 u] w fun e w' => e = .returned (.bool true) ∧ Below w.heap.size w w' := by
  go_enter Try.func4, Try.ntmps4
  go_wp2_with (go_at_call 8; refine (alive_true _).mono ?_; rintro e w' ⟨rfl, rfl⟩)
  all_goals (go_ret; exact ⟨rfl, Below.refl _ _⟩)
theorem apart_mid (a b : BitVec 32) (s : ByteArray) (at_ u : Int) (w : World) (h : s.size ≤ 2048) (hz : s.size = 0 ∨ u = 0) :
    Calls Try.prog 4 #[.int .u32 (I a), .int .u32 (I b), .string s, .int .i64 at_, .int .u8 u] w fun e w' => e = .returned (.bool true) ∧ Below w.heap.size w w' := by
  have hq := apart_q a b s.data.toList
  have h4 : s.size ≤ 4096 := by omega
  have hb : ((s.size : Int) == 0) = true ∨ ((s.size : Int) == 0) = false ∧ (u == 0) = true := by
    by_cases e : s.size = 0
    · left; rw [e]; rfl
    · right; exact ⟨by simpa using e, by simpa using hz.resolve_left e⟩
  clear hz
  rcases hb with h1 | ⟨h1, h2⟩
  all_goals
    go_enter Try.func4, Try.ntmps4
    go_wp2_with (first | (go_at_call 8; refine (alive_true _).mono ?_; rintro e w' ⟨rfl, rfl⟩) | (go_at_call 9; refine (castag_Sum _ _ (by assumption) _).mono ?_; rintro e w' ⟨rfl, rfl⟩))
    go_ret
    exact ⟨rfl, Below.refl _ _⟩
theorem u8_of (a : Int) (h : (Lit.int .u8 a).wf = true) : ∃ c : UInt8, a = c.toNat := by
  have hb : 0 ≤ a ∧ a ≤ 255 := by simpa [Lit.wf, IntKind.min, IntKind.max, IntKind.signed, IntKind.bits] using h
  refine ⟨UInt8.ofNat a.toNat, ?_⟩
  rw [UInt8.toNat_ofNat']
  omega
theorem walkCastagApart (a0 : Int) (a1 : Int) (a2 : ByteArray) (a3 : Int) (a4 : Int) (w0 : (Lit.int .u32 a0).wf = true) (w1 : (Lit.int .u32 a1).wf = true) (_ : a2.size ≤ maxLen) (_ : (Lit.int .i64 a3).wf = true) (w4 : (Lit.int .u8 a4).wf = true) (w : World) :
    Calls Try.prog 4 #[.int .u32 a0, .int .u32 a1, .string a2, .int .i64 a3, .int .u8 a4] w fun e w' => e = .returned (.bool true) ∧ Below w.heap.size w w' := by
  obtain ⟨a, rfl⟩ := I_of a0 w0
  obtain ⟨b, rfl⟩ := I_of a1 w1
  by_cases h : 2048 < a2.size
  · exact apart_out _ _ a2 a3 a4 w h
  · by_cases hz : a2.size = 0 ∨ a4 = 0
    · exact apart_mid a b a2 a3 a4 w (by omega) hz
    · obtain ⟨u, rfl⟩ := u8_of a4 w4
      refine apart_in a b a2 a3 u w (by omega) (by omega) (fun e => hz (Or.inr ?_))
      rw [e]; rfl
end Go.Proofs.Ytefkodglfhonpaa
