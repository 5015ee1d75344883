/- The plain law of decimal texts. Conditions: none. -/
import Derived.Test.YtjjlfkbgieloeaaDoorDigs
import Derived.Test.YtjjlfkbgieloeaaDoorFrom
import Derived.Test.YtjjlfkbgieloeaaDoorLays
namespace Go.Proofs.YtjjlfkbgieloeaaDoor
open Go.RowKit Go.PlainAid
def dig (b : UInt8) : Bool := decide (48 ≤ b.toNat) && decide (b.toNat ≤ 57)
def tenSigns : ByteArray := ⟨#[48, 49, 50, 51, 52, 53, 54, 55, 56, 57]⟩
def valL (l : List UInt8) : Nat := l.foldl (fun v b => v * 10 + (b.toNat - 48)) 0
theorem valL_snoc (l : List UInt8) (b : UInt8) : valL (l ++ [b]) = valL l * 10 + (b.toNat - 48) := by simp [valL]
theorem contains_dig (b : UInt8) : tenSigns.data.toList.contains b = dig b := by
  have h : ∀ n : Fin 256, ([48, 49, 50, 51, 52, 53, 54, 55, 56, 57] : List UInt8).contains (UInt8.ofNat n.val) = dig (UInt8.ofNat n.val) := by decide +kernel
  have := h ⟨b.toNat, b.toNat_lt⟩
  rw [UInt8.ofNat_toNat] at this
  exact this
theorem drop_all {p : UInt8 → Bool} : ∀ l : List UInt8, (∀ x ∈ l.dropWhile p, p x = true) → ∀ x ∈ l, p x = true
  | [], _ => by simp
  | a :: l, h => by
    by_cases ha : p a = true
    · rw [List.dropWhile_cons_of_pos ha] at h
      intro x hx
      rcases List.mem_cons.1 hx with rfl | hx
      · exact ha
      · exact drop_all l h x hx
    · rw [List.dropWhile_cons_of_neg ha] at h
      exact absurd (h a (by simp)) ha
theorem drop_nil {p : UInt8 → Bool} : ∀ l : List UInt8, (∀ x ∈ l, p x = true) → l.dropWhile p = []
  | [], _ => rfl
  | a :: l, h => by
    rw [List.dropWhile_cons_of_pos (h a (by simp))]
    exact drop_nil l (fun x hx => h x (List.mem_cons_of_mem _ hx))
theorem trim_all (l cs : List UInt8) (h : ∀ x ∈ l, cs.contains x = true) : Lib.trimS l cs = [] := by
  unfold Lib.trimS Lib.trimLeftS Lib.trimRightS
  rw [drop_nil l.reverse (fun x hx => h x (by simpa using hx))]
  rfl
theorem trim_some (l cs : List UInt8) (h : Lib.trimS l cs = []) : ∀ x ∈ l, cs.contains x = true := by
  unfold Lib.trimS Lib.trimLeftS Lib.trimRightS at h
  have h1 : ∀ x ∈ l.reverse.dropWhile (cs.contains ·), cs.contains x = true := by
    intro x hx
    by_cases hp : cs.contains x = true
    · exact hp
    · exfalso
      have h2 : ∀ (m : List UInt8), m.dropWhile (cs.contains ·) = [] → ∀ y ∈ m, cs.contains y = true := by
        intro m
        induction m with
        | nil => intro _ y hy; simp at hy
        | cons a m ih =>
          intro hm y hy
          by_cases ha : cs.contains a = true
          · rw [List.dropWhile_cons_of_pos ha] at hm
            rcases List.mem_cons.1 hy with rfl | hy
            · exact ha
            · exact ih hm y hy
          · rw [List.dropWhile_cons_of_neg ha] at hm
            cases hm
      exact hp (h2 _ h x (by simpa using hx))
  have h3 := drop_all l.reverse h1
  intro x hx
  exact h3 x (by simpa using hx)
theorem trim_yes (s : ByteArray) (w : World) (hs : s.size ≤ 9223372036854775807) (h : s.data.toList.all dig = true) :
    Calls Tryd.prog 50 #[.string s, .string tenSigns] w fun e w' => e = .returned (.string ⟨#[]⟩) ∧ Below w.heap.size w w' := by
  have := Any.strings_Trim_laid Tryd.lays160 (by kernel_rfl) s tenSigns w hs (by decide) (ascii_of_all (by decide))
  rw [trim_all _ _ (fun x hx => by rw [contains_dig]; exact List.all_eq_true.1 h x hx)] at this
  exact this
theorem trim_no (s : ByteArray) (hs : s.size ≤ 9223372036854775807) (h : ¬ s.data.toList.all dig = true) :
    ∃ r : ByteArray, ¬ r = ⟨#[]⟩ ∧ ∀ w, Calls Tryd.prog 50 #[.string s, .string tenSigns] w fun e w' => e = .returned (.string r) ∧ Below w.heap.size w w' := by
  refine ⟨_, ?_, fun w => Any.strings_Trim_laid Tryd.lays160 (by kernel_rfl) s tenSigns w hs (by decide) (ascii_of_all (by decide))⟩
  intro he
  have h1 : Lib.trimS s.data.toList tenSigns.data.toList = [] := by
    have := congrArg (fun b : ByteArray => b.data.toList) he
    simpa using this
  refine h (List.all_eq_true.2 fun x hx => ?_)
  rw [← contains_dig]
  exact trim_some _ _ h1 x hx
/-- a prefix is no more than the whole -/
theorem valL_mono : ∀ (m l : List UInt8), valL l ≤ valL (l ++ m)
  | [], l => by simp
  | b :: m, l => by
    have h := valL_mono m (l ++ [b])
    rw [List.append_assoc, List.singleton_append] at h
    have h2 := valL_snoc l b
    omega
theorem valL_take (l : List UInt8) (i : Nat) : valL (l.take i) ≤ valL l := by
  have := valL_mono (l.drop i) (l.take i)
  rwa [List.take_append_drop] at this
theorem valL_step (s : ByteArray) (i : Nat) (h : i < s.size) : valL (s.data.toList.take (i + 1)) = valL (s.data.toList.take i) * 10 + (bn s i - 48) := by
  have h2 : i < s.data.toList.length := h
  rw [List.take_succ_eq_append_getElem h2, valL_snoc, bn_data]
  have h3 : i < s.data.size := h
  unfold Array.getD
  rw [dif_pos h3]
  rfl
theorem dig_at (s : ByteArray) (i : Nat) (h : i < s.size) (hd : s.data.toList.all dig = true) : 48 ≤ bn s i ∧ bn s i ≤ 57 := by
  have h3 : i < s.data.size := h
  have := List.all_eq_true.1 hd (s.data[i]) (by simp)
  rw [bn_data]
  unfold Array.getD
  rw [dif_pos h3]
  simpa [dig] using this
end Go.Proofs.YtjjlfkbgieloeaaDoor
