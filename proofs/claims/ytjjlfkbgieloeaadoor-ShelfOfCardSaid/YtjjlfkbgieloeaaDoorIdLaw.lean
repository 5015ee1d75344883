/- The plain law of places' names: unlike places have unlike numbers, none of which is 0, or the greatest. Conditions: none. -/
import Derived.Test.YtjjlfkbgieloeaaDoorId
namespace Go.Proofs.YtjjlfkbgieloeaaDoor
open Go.RowKit Go.PlainAid
theorem low_byte (s : ByteArray) (o : Nat) : ∀ n j, j < n → low s o n / 2 ^ (8 * j) % 256 = bn s (o + j)
  | 0, _, h => by omega
  | n + 1, j, h => by
    have hl := low_lt s o n
    have hb := bn_lt s (o + n)
    show (low s o n + 2 ^ (8 * n) * bn s (o + n)) / 2 ^ (8 * j) % 256 = _
    by_cases hj : j = n
    · subst hj
      rw [Nat.add_mul_div_left _ _ (Nat.pow_pos (by omega)), Nat.div_eq_of_lt hl, Nat.zero_add, Nat.mod_eq_of_lt hb]
    · have ih := low_byte s o n j (by omega)
      have e : (2 : Nat) ^ (8 * n) = 2 ^ (8 * j) * (256 * 2 ^ (8 * (n - j) - 8)) := by
        rw [show (256 : Nat) = 2 ^ 8 by rfl, ← Nat.pow_add, ← Nat.pow_add]
        congr 1
        omega
      rw [e, Nat.mul_assoc, Nat.add_mul_div_left _ _ (Nat.pow_pos (by omega)), Nat.mul_assoc, Nat.add_mul_mod_self_left]
      exact ih
/-- a place's number -/
def idN (g s : ByteArray) (st : Int) : Nat := low (idText g s st) 8 8 * 18446744073709551616 + low (idText g s st) 0 8
theorem low_64 (s : ByteArray) (o : Nat) : low s o 8 < 18446744073709551616 := by
  have := low_lt s o 8
  have e : (2 : Nat) ^ (8 * 8) = 18446744073709551616 := by decide
  omega
theorem idN_lt (g s : ByteArray) (st : Int) : idN g s st < M := by
  have h1 := low_64 (idText g s st) 8
  have h2 := low_64 (idText g s st) 0
  unfold idN M
  omega
theorem idN_hi (g s : ByteArray) (st : Int) : hi (idN g s st) = (low (idText g s st) 8 8 : Nat) := by
  have h2 := low_64 (idText g s st) 0
  unfold hi idN
  omega
theorem idN_lo (g s : ByteArray) (st : Int) : lo (idN g s st) = (low (idText g s st) 0 8 : Nat) := by
  have h2 := low_64 (idText g s st) 0
  unfold lo idN
  omega
theorem id_is (g s : ByteArray) (st : Int) (w : World) (hg : g.size ≤ 9223372036854775807) (hs : s.size ≤ 9223372036854775807) (h : isPlace g s st = true) :
    Calls Tryd.prog 30 #[.agg #[.string g, .string s, .int .i64 st]] w fun e w' => e = .returned (.tuple #[A (idN g s st), .int .i64 0]) ∧ Below w.heap.size w w' := by
  have := id_yes g s st w hg hs h
  rw [← idN_hi, ← idN_lo] at this
  exact this
theorem idN_bytes {g s g' s' : ByteArray} {st st' : Int} (h : idN g s st = idN g' s' st') : ∀ j, j < 16 → bn (idText g s st) j = bn (idText g' s' st') j := by
  have a1 := low_64 (idText g s st) 0
  have a2 := low_64 (idText g' s' st') 0
  have h1 : low (idText g s st) 8 8 = low (idText g' s' st') 8 8 := by unfold idN at h; omega
  have h2 : low (idText g s st) 0 8 = low (idText g' s' st') 0 8 := by unfold idN at h; omega
  intro j hj
  by_cases h8 : j < 8
  · have e1 := low_byte (idText g s st) 0 8 j h8
    have e2 := low_byte (idText g' s' st') 0 8 j h8
    rw [Nat.zero_add] at e1 e2
    rw [← e1, ← e2, h2]
  · have e1 := low_byte (idText g s st) 8 8 (j - 8) (by omega)
    have e2 := low_byte (idText g' s' st') 8 8 (j - 8) (by omega)
    rw [show 8 + (j - 8) = j by omega] at e1 e2
    rw [← e1, ← e2, h1]
theorem idL_len {g s : ByteArray} {st : Int} (h : isPlace g s st = true) : (idL g s st).length = 16 := by
  obtain ⟨b1, b2, _, _⟩ := plc_bounds h
  unfold idL
  have e1 : g.data.toList.length = g.size := rfl
  have e2 : s.data.toList.length = s.size := rfl
  simp only [List.length_append, List.length_replicate, e1, e2, List.length_cons, List.length_nil]
  omega
theorem bn_list (l : List UInt8) (j : Nat) (h : j < l.length) : bn ⟨l.toArray⟩ j = (l[j]).toNat := by
  rw [bn_data]
  unfold Array.getD
  rw [dif_pos (show j < l.toArray.size by simpa using h)]
  rfl
theorem idN_list {g s g' s' : ByteArray} {st st' : Int} (h : idN g s st = idN g' s' st') (hp : isPlace g s st = true) (hp' : isPlace g' s' st' = true) : idL g s st = idL g' s' st' := by
  have l1 := idL_len hp
  have l2 := idL_len hp'
  apply List.ext_getElem (by omega)
  intro j h1 h2
  have := idN_bytes h j (by omega)
  unfold idText at this
  rw [bn_list _ _ h1, bn_list _ _ h2] at this
  exact UInt8.toNat_inj.1 this
theorem sgn_pos {b : UInt8} (h : sgn b = true) : b ≠ 0 := by
  rintro rfl
  revert h
  decide
theorem plc_signs {g s : ByteArray} {st : Int} (h : isPlace g s st = true) : (∀ x ∈ g.data.toList, sgn x = true) ∧ (∀ x ∈ s.data.toList, sgn x = true) := by
  unfold isPlace isName at h
  simp only [Bool.and_eq_true] at h
  exact ⟨List.all_eq_true.1 h.1.1.2, List.all_eq_true.1 h.1.2.2⟩
theorem strip (l : List UInt8) (n : Nat) (h : ∀ x ∈ l, sgn x = true) : (l ++ List.replicate n 0).filter (fun x => x != 0) = l := by
  rw [List.filter_append, List.filter_eq_self.2 (fun x hx => by simpa using sgn_pos (h x hx))]
  simp
theorem id_inj {g s g' s' : ByteArray} {st st' : Int} (h : idN g s st = idN g' s' st') (hp : isPlace g s st = true) (hp' : isPlace g' s' st' = true) : g = g' ∧ s = s' ∧ st = st' := by
  have hL := idN_list h hp hp'
  obtain ⟨b1, b2, b3, b4⟩ := plc_bounds hp
  obtain ⟨c1, c2, c3, c4⟩ := plc_bounds hp'
  obtain ⟨s1, s2⟩ := plc_signs hp
  obtain ⟨t1, t2⟩ := plc_signs hp'
  have e1 : g.data.toList.length = g.size := rfl
  have e2 : s.data.toList.length = s.size := rfl
  have f1 : g'.data.toList.length = g'.size := rfl
  have f2 : s'.data.toList.length = s'.size := rfl
  unfold idL at hL
  have k1 := List.append_inj hL (by simp only [List.length_append, List.length_replicate, e1, e2, f1, f2]; omega)
  have hA : (g.data.toList ++ List.replicate (10 - g.size) 0) ++ (s.data.toList ++ List.replicate (4 - s.size) 0) = (g'.data.toList ++ List.replicate (10 - g'.size) 0) ++ (s'.data.toList ++ List.replicate (4 - s'.size) 0) := by
    have := k1.1
    simp only [List.append_assoc] at this ⊢
    exact this
  have k2 := List.append_inj hA (by simp only [List.length_append, List.length_replicate, e1, f1]; omega)
  refine ⟨?_, ?_, ?_⟩
  · have := congrArg (List.filter fun x => x != 0) k2.1
    rw [strip _ _ s1, strip _ _ t1] at this
    exact ByteArray.ext (Array.toList_inj.1 this)
  · have := congrArg (List.filter fun x => x != 0) k2.2
    rw [strip _ _ s2, strip _ _ t2] at this
    exact ByteArray.ext (Array.toList_inj.1 this)
  · have h3 := (List.cons.inj k1.2).1
    have h4 := congrArg UInt8.toNat h3
    rw [UInt8.toNat_ofNat', UInt8.toNat_ofNat'] at h4
    omega
theorem idN_ends {g s : ByteArray} {st : Int} (hp : isPlace g s st = true) : bn (idText g s st) 15 = 1 ∧ bn (idText g s st) 14 = st.toNat := by
  have l1 := idL_len hp
  obtain ⟨b1, b2, b3, b4⟩ := plc_bounds hp
  have e1 : g.data.toList.length = g.size := rfl
  have e2 : s.data.toList.length = s.size := rfl
  have hl : (g.data.toList ++ List.replicate (10 - g.size) (0 : UInt8) ++ s.data.toList ++ List.replicate (4 - s.size) 0).length = 14 := by
    simp only [List.length_append, List.length_replicate, e1, e2]; omega
  unfold idText
  rw [bn_list _ 15 (by omega), bn_list _ 14 (by omega)]
  unfold idL
  rw [List.getElem_append_right (by omega), List.getElem_append_right (by omega)]
  simp only [hl]
  refine ⟨rfl, ?_⟩
  show (UInt8.ofNat st.toNat).toNat = st.toNat
  rw [UInt8.toNat_ofNat']
  omega
theorem idN_ne0 {g s : ByteArray} {st : Int} (hp : isPlace g s st = true) : idN g s st ≠ 0 := by
  intro h
  have h1 : low (idText g s st) 8 8 = 0 := by unfold idN at h; omega
  have h2 := low_byte (idText g s st) 8 8 7 (by omega)
  have h3 := (idN_ends hp).1
  rw [h1] at h2
  simp at h2
  omega
theorem idN_neM {g s : ByteArray} {st : Int} (hp : isPlace g s st = true) : idN g s st ≠ M - 1 := by
  intro h
  obtain ⟨_, _, b3, b4⟩ := plc_bounds hp
  have a2 := low_64 (idText g s st) 0
  have h1 : low (idText g s st) 8 8 = 18446744073709551615 := by unfold idN M at h; omega
  have h2 := low_byte (idText g s st) 8 8 6 (by omega)
  have h3 := (idN_ends hp).2
  rw [h1] at h2
  have h4 : (18446744073709551615 : Nat) / 2 ^ (8 * 6) % 256 = 255 := by decide
  rw [h4] at h2
  have h5 : 255 = bn (idText g s st) 14 := h2
  omega
end Go.Proofs.YtjjlfkbgieloeaaDoor
