/- What shelf.Of answers: a place just if the number is that place's name. Conditions: a number of 128 bits. -/
import Derived.Test.YtjjlfkbgieloeaaDoorOf
import Derived.Test.YtjjlfkbgieloeaaDoorOrder
namespace Go.Proofs.YtjjlfkbgieloeaaDoor
open Go.RowKit Go.PlainAid
theorem idN_any (g s : ByteArray) (st : Int) (j : Nat) (h : j < 16) : bn (bytesOf (idN g s st)) j = bn (idText g s st) j := by
  rw [bn_bytes _ _ h]
  have h2 := low_64 (idText g s st) 0
  by_cases h8 : j < 8
  · have e1 := low_byte (idText g s st) 0 8 j h8
    rw [Nat.zero_add] at e1
    rw [← e1]
    have e : idN g s st = low (idText g s st) 0 8 + 2 ^ (8 * j) * (256 * (2 ^ (64 - 8 * j - 8) * low (idText g s st) 8 8)) := by
      have e2 : (2 : Nat) ^ (8 * j) * (256 * (2 ^ (64 - 8 * j - 8) * low (idText g s st) 8 8)) = 18446744073709551616 * low (idText g s st) 8 8 := by
        rw [show (256 : Nat) = 2 ^ 8 by rfl, ← Nat.mul_assoc, ← Nat.mul_assoc, ← Nat.pow_add, ← Nat.pow_add, show 8 * j + 8 + (64 - 8 * j - 8) = 64 by omega]
      rw [e2]
      unfold idN
      omega
    rw [e, Nat.add_mul_div_left _ _ (Nat.pow_pos (by omega)), Nat.add_mul_mod_self_left]
  · have e1 := low_byte (idText g s st) 8 8 (j - 8) (by omega)
    rw [show 8 + (j - 8) = j by omega] at e1
    rw [← e1]
    have e : idN g s st / 18446744073709551616 = low (idText g s st) 8 8 := by unfold idN; omega
    rw [← e, Nat.div_div_eq_div_mul, show (18446744073709551616 : Nat) * 2 ^ (8 * (j - 8)) = 2 ^ (8 * j) by rw [show (18446744073709551616 : Nat) = 2 ^ 64 by rfl, ← Nat.pow_add]; congr 1; omega]
theorem idText_size {g s : ByteArray} {st : Int} (h : isPlace g s st = true) : (idText g s st).size = 16 := by
  have := idL_len h
  show (idL g s st).toArray.size = 16
  rw [List.size_toArray, this]
theorem bn_eq {a b : ByteArray} (n : Nat) (ha : a.size = n) (hb : b.size = n) (h : ∀ j, j < n → bn a j = bn b j) : a = b := by
  apply ByteArray.ext
  apply Array.ext
  · exact ha.trans hb.symm
  · intro j h1 h2
    have := h j (by have : a.data.size = n := ha; omega)
    rw [bn_data, bn_data] at this
    unfold Array.getD at this
    rw [dif_pos h1, dif_pos h2] at this
    exact UInt8.toNat_inj.1 this
theorem idBytes {g s : ByteArray} {st : Int} (h : isPlace g s st = true) : bytesOf (idN g s st) = idText g s st :=
  bn_eq 16 (bytesOf_size _) (idText_size h) (fun j hj => idN_any g s st j hj)
theorem reftext_is {g s : ByteArray} {st : Int} (h : isPlace g s st = true) (w : World) :
    Calls Tryd.prog 34 #[.string g, .string s, .int .i64 st] w fun e w' => e = .returned (.string (idText g s st)) ∧ Below w.heap.size w w' := by
  obtain ⟨b1, b2, b3, b4⟩ := plc_bounds h
  refine (reftext_any g s st w b1 b2 b3 b4).mono fun e w' ⟨he, hw⟩ => ⟨?_, hw⟩
  rw [he]
  have e1 : padS g (10 - g.size) ++ padS s (4 - s.size) ++ strOfNums [st, 1] = idText g s st := by
    apply ByteArray.ext
    unfold idText idL padS strOfNums
    apply Array.toList_inj.1
    simp
  rw [e1]
def ofG (n : Nat) : ByteArray := ⟨(Lib.trimRightB ((bytesOf n).extract 0 10).data.toList 0).toArray⟩
def ofS (n : Nat) : ByteArray := ⟨(Lib.trimRightB ((bytesOf n).extract 10 14).data.toList 0).toArray⟩
def ofSt (n : Nat) : Int := bt (bytesOf n) 14
theorem trimR_pad (l : List UInt8) (n : Nat) (h : ∀ x ∈ l, sgn x = true) : Lib.trimRightB (l ++ List.replicate n 0) 0 = l := by
  unfold Lib.trimRightB
  rw [List.reverse_append, List.reverse_replicate, List.dropWhile_append_of_pos (by intro a ha; simp at ha; simp [ha.2])]
  rcases hl : l.reverse with _ | ⟨a, t⟩
  · simp at hl; simp [hl]
  · have ha : a ∈ l := by have : a ∈ l.reverse := by rw [hl]; simp
                          simpa using this
    have h0 := sgn_pos (h a ha)
    rw [List.dropWhile_cons_of_neg (by simpa using h0), ← hl, List.reverse_reverse]
theorem idL_cuts {g s : ByteArray} {st : Int} (h : isPlace g s st = true) : (idL g s st).take 10 = g.data.toList ++ List.replicate (10 - g.size) 0 ∧ ((idL g s st).take 14).drop 10 = s.data.toList ++ List.replicate (4 - s.size) 0 := by
  obtain ⟨b1, b2, b3, b4⟩ := plc_bounds h
  have e1 : g.data.toList.length = g.size := rfl
  have e2 : s.data.toList.length = s.size := rfl
  have l1 : (g.data.toList ++ List.replicate (10 - g.size) (0 : UInt8)).length = 10 := by rw [List.length_append, List.length_replicate, e1]; omega
  have l2 : (s.data.toList ++ List.replicate (4 - s.size) (0 : UInt8)).length = 4 := by rw [List.length_append, List.length_replicate, e2]; omega
  have e : idL g s st = (g.data.toList ++ List.replicate (10 - g.size) 0) ++ ((s.data.toList ++ List.replicate (4 - s.size) 0) ++ [UInt8.ofNat st.toNat, 1]) := by unfold idL; simp
  rw [e]
  constructor
  · rw [List.take_append_of_le_length (by omega), List.take_of_length_le (by omega)]
  · rw [List.drop_take, List.drop_append, l1, List.drop_of_length_le (by omega), List.nil_append, Nat.sub_self, List.drop_zero, List.take_append_of_le_length (by omega), List.take_of_length_le (by omega)]
theorem of_id {g s : ByteArray} {st : Int} (h : isPlace g s st = true) : ofG (idN g s st) = g ∧ ofS (idN g s st) = s ∧ ofSt (idN g s st) = st := by
  obtain ⟨c1, c2⟩ := idL_cuts h
  obtain ⟨s1, s2⟩ := plc_signs h
  obtain ⟨n15, n14⟩ := idN_ends h
  obtain ⟨b1, b2, b3, b4⟩ := plc_bounds h
  unfold ofG ofS ofSt
  rw [idBytes h]
  refine ⟨?_, ?_, ?_⟩
  · have e : ((idText g s st).extract 0 10).data.toList = (idL g s st).take 10 := by simp [idText]
    rw [e, c1, trimR_pad _ _ s1]
  · have e : ((idText g s st).extract 10 14).data.toList = ((idL g s st).take 14).drop 10 := by simp [idText, List.drop_take]
    rw [e, c2, trimR_pad _ _ s2]
  · rw [bt_bn, n14]; omega
theorem tright (s : ByteArray) (w : World) (hs : s.size ≤ 9223372036854775807) : Calls Tryd.prog 47 #[.string s, .string ⟨#[0]⟩] w fun e w' => e = .returned (.string ⟨(Lib.trimRightB s.data.toList 0).toArray⟩) ∧ w = w' :=
  (Any.strings_TrimRight_one Tryd.lays162 s 0 (by decide) w hs).mono fun _ _ ⟨he, hw⟩ => ⟨he, hw.symm⟩
theorem trimR_le (l : List UInt8) : (Lib.trimRightB l 0).length ≤ l.length := by
  unfold Lib.trimRightB
  rw [List.length_reverse]
  have := (List.dropWhile_suffix (· == (0 : UInt8)) (l := l.reverse)).length_le
  rw [List.length_reverse] at this
  exact this
theorem ofG_size (n : Nat) : (ofG n).size ≤ 16 := by
  have h1 := trimR_le ((bytesOf n).extract 0 10).data.toList
  have h2 : ((bytesOf n).extract 0 10).data.toList.length = ((bytesOf n).extract 0 10).size := rfl
  rw [ByteArray.size_extract, bytesOf_size] at h2
  show (Lib.trimRightB ((bytesOf n).extract 0 10).data.toList 0).toArray.size ≤ 16
  rw [List.size_toArray]; omega
theorem ofS_size (n : Nat) : (ofS n).size ≤ 16 := by
  have h1 := trimR_le ((bytesOf n).extract 10 14).data.toList
  have h2 : ((bytesOf n).extract 10 14).data.toList.length = ((bytesOf n).extract 10 14).size := rfl
  rw [ByteArray.size_extract, bytesOf_size] at h2
  show (Lib.trimRightB ((bytesOf n).extract 10 14).data.toList 0).toArray.size ≤ 16
  rw [List.size_toArray]; omega
abbrev ofNo : Value := .tuple #[.agg #[.string ⟨#[]⟩, .string ⟨#[]⟩, .int .i64 0], .bool false]
abbrev ofYes (g s : ByteArray) (st : Int) : Value := .tuple #[.agg #[.string g, .string s, .int .i64 st], .bool true]
def Ofs (n : Nat) (v : Value) : Prop := ∀ w : World, Calls Tryd.prog 33 #[.agg #[.int .u64 (hi n), .int .u64 (lo n)]] w fun e w' => e = .returned v ∧ Below w.heap.size w w'
theorem of_res (n : Nat) (hn : n < M) : (Ofs n ofNo ∧ ∀ g s st, isPlace g s st = true → n ≠ idN g s st) ∨ ∃ g s st, isPlace g s st = true ∧ n = idN g s st ∧ Ofs n (ofYes g s st) := by
  have HB := fun w => wbytes_any n w hn
  have hsz := bytesOf_size n
  have HG : ∀ w, Calls Tryd.prog 47 #[.string ((bytesOf n).extract 0 10), .string ⟨#[0]⟩] w fun e w' => e = .returned (.string (ofG n)) ∧ w = w' := fun w => tright _ w (by rw [ByteArray.size_extract]; omega)
  have HS : ∀ w, Calls Tryd.prog 47 #[.string ((bytesOf n).extract 10 14), .string ⟨#[0]⟩] w fun e w' => e = .returned (.string (ofS n)) ∧ w = w' := fun w => tright _ w (by rw [ByteArray.size_extract]; omega)
  have g1 := ofG_size n
  have g2 := ofS_size n
  cases hp : isPlace (ofG n) (ofS n) (ofSt n)
  · refine .inl ⟨fun w => of_no n _ _ _ (ofSt n) w hsz rfl HB HG HS (fun w => id_no _ _ _ w (by omega) (by omega) hp), fun g s st h e => ?_⟩
    obtain ⟨e1, e2, e3⟩ := of_id h
    rw [e, e1, e2, e3, h] at hp
    cases hp
  · have HI := fun w => id_is (ofG n) (ofS n) (ofSt n) w (by omega) (by omega) hp
    by_cases hne : n = idN (ofG n) (ofS n) (ofSt n)
    · refine .inr ⟨_, _, _, hp, hne, fun w => ?_⟩
      rw [← hne] at HI
      exact of_eq n _ _ _ (ofSt n) w hsz rfl HB HG HS HI
    · refine .inl ⟨fun w => of_ne n _ _ _ (ofSt n) _ _ w hsz rfl HB HG HS HI (differ _ _ (fun e => hne e.symm)), fun g s st h e => ?_⟩
      obtain ⟨e1, e2, e3⟩ := of_id h
      rw [← e] at e1 e2 e3
      rw [e1, e2, e3] at hne
      exact hne e
end Go.Proofs.YtjjlfkbgieloeaaDoor
