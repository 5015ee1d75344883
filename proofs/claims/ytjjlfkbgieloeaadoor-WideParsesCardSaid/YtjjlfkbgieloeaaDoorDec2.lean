/- The plain law of decimal texts, the other way round: what is shown of a text's value is the text. Conditions: none. -/
import Derived.Test.YtjjlfkbgieloeaaDoorDec
namespace Go.Proofs.YtjjlfkbgieloeaaDoor
open Go.RowKit Go.PlainAid
theorem dig_nat {b : UInt8} (h : dig b = true) : 48 ≤ b.toNat ∧ b.toNat ≤ 57 := by simpa [dig] using h
theorem valL_one (b : UInt8) : valL [b] = b.toNat - 48 := by simp [valL]
theorem decs_val : ∀ (n : Nat) (l : List UInt8), l.length = n → l.all dig = true → ∀ (c : UInt8) (t : List UInt8), l = c :: t → (t = [] ∨ c.toNat ≠ 48) → decs (valL l) = l := by
  intro n
  induction n with
  | zero => intro l hl _ c t e; rw [e] at hl; simp at hl
  | succ n ih =>
    intro l hl hd c t e hc
    rcases List.eq_nil_or_concat l with h | ⟨L, b, h⟩
    · rw [h] at e; cases e
    · rw [List.concat_eq_append] at h
      have hb : dig b = true := List.all_eq_true.1 hd b (by rw [h]; simp)
      obtain ⟨b1, b2⟩ := dig_nat hb
      have hbb : UInt8.ofNat (48 + (b.toNat - 48)) = b := by rw [show 48 + (b.toNat - 48) = b.toNat by omega]; simp
      cases L with
      | nil =>
        rw [h, List.nil_append, valL_one, decs_low _ (by omega), Nat.mod_eq_of_lt (by omega), hbb]
      | cons c2 t2 =>
        have hcc : c2 = c := by rw [h] at e; exact (List.cons.inj e).1
        have ht : ¬ t = [] := by
          rw [h] at e
          have := (List.cons.inj e).2
          rw [← this]; simp
        have hc0 : c.toNat ≠ 48 := by
          rcases hc with h | h
          · exact absurd h ht
          · exact h
        have hcd : dig c = true := List.all_eq_true.1 hd c (by rw [e]; simp)
        obtain ⟨c1, _⟩ := dig_nat hcd
        have hpos : 0 < valL (c2 :: t2) := by
          have := valL_mono t2 [c2]
          rw [valL_one, hcc] at this
          rw [hcc]
          have e2 : [c] ++ t2 = c :: t2 := rfl
          rw [e2] at this
          omega
        have hL : decs (valL (c2 :: t2)) = c2 :: t2 := ih (c2 :: t2) (by rw [h] at hl; simp at hl ⊢; omega) (List.all_eq_true.2 fun x hx => List.all_eq_true.1 hd x (by rw [h]; exact List.mem_append_left _ hx)) c2 t2 rfl (.inr (by rw [hcc]; exact hc0))
        rw [h, valL_snoc]
        have e1 : (valL (c2 :: t2) * 10 + (b.toNat - 48)) / 10 = valL (c2 :: t2) := by omega
        have e3 : (valL (c2 :: t2) * 10 + (b.toNat - 48)) % 10 = b.toNat - 48 := by omega
        rw [decs_high _ (by omega), e1, e3, hL, hbb]
theorem valL_lt : ∀ (n : Nat) (l : List UInt8), l.length = n → l.all dig = true → valL l < 10 ^ n := by
  intro n
  induction n with
  | zero =>
    intro l hl _
    rw [List.eq_nil_of_length_eq_zero hl]
    decide
  | succ n ih =>
    intro l hl hd
    rcases List.eq_nil_or_concat l with h | ⟨L, b, h⟩
    · rw [h] at hl; simp at hl
    · rw [List.concat_eq_append] at h
      have hb : dig b = true := List.all_eq_true.1 hd b (by rw [h]; simp)
      obtain ⟨b1, b2⟩ := dig_nat hb
      have := ih L (by rw [h] at hl; simpa using hl) (List.all_eq_true.2 fun x hx => List.all_eq_true.1 hd x (by rw [h]; exact List.mem_append_left _ hx))
      rw [h, valL_snoc, Nat.pow_succ]
      omega
/-- a text whose digits are all digits, with no nought ahead of others -/
theorem text_val (s : ByteArray) (h0 : 0 < s.size) (h1 : s.size = 1 ∨ ¬ bt s 0 = 48) (hd : s.data.toList.all dig = true) : s = ⟨(decs (valL s.data.toList)).toArray⟩ := by
  cases e : s.data.toList with
  | nil => have h2 : s.data.toList.length = s.size := rfl; rw [e, List.length_nil] at h2; omega
  | cons c t =>
    have h2 : s.data.toList.length = s.size := rfl
    have hc : t = [] ∨ c.toNat ≠ 48 := by
      rcases h1 with h1 | h1
      · left
        rw [e, List.length_cons] at h2
        exact List.eq_nil_of_length_eq_zero (by omega)
      · right
        intro hc
        apply h1
        rw [bt_data]
        have h3 : 0 < s.data.size := h0
        unfold Array.getD
        rw [dif_pos h3]
        have h4 : s.data.toList[0]? = some c := by rw [e]; rfl
        have h5 : s.data[0] = c := by
          rw [← Array.getElem_toList, ← Option.some_inj, ← h4]
          exact (List.getElem?_eq_getElem (by simpa using h3)).symm
        show ((s.data[0]).toNat : Int) = 48
        rw [h5, hc]
        rfl
    have := decs_val _ s.data.toList rfl hd c t e hc
    rw [← e, this]
end Go.Proofs.YtjjlfkbgieloeaaDoor
