/- The plain mathematics of the check sum: a shift register of 32 bits, linear and reversible. Conditions: none. -/
namespace Go.Proofs.YtefkodglfhonpaaDoor.Crc
def poly : BitVec 32 := 0x82f63b78#32
def L (c : BitVec 32) : BitVec 32 := (c >>> 1) ^^^ (if c.getLsbD 0 then poly else 0#32)

theorem L_xor (a b : BitVec 32) : L (a ^^^ b) = L a ^^^ L b := by
  unfold L
  apply BitVec.eq_of_getLsbD_eq
  intro i hi
  simp only [BitVec.getLsbD_xor, BitVec.getLsbD_ushiftRight]
  cases a.getLsbD 0 <;> cases b.getLsbD 0 <;> simp [Bool.xor_comm, Bool.xor_left_comm]

theorem L_zero : L 0#32 = 0#32 := by decide

theorem L_inj0 (a : BitVec 32) (h : L a = 0#32) : a = 0#32 := by
  have h31 : (L a).getLsbD 31 = false := by rw [h]; rfl
  have hp : poly.getLsbD 31 = true := by decide
  have h0 : a.getLsbD 0 = false := by
    unfold L at h31
    rw [BitVec.getLsbD_xor, BitVec.getLsbD_ushiftRight] at h31
    cases e : a.getLsbD 0
    · rfl
    · rw [e, if_pos rfl, hp] at h31; simp at h31
  apply BitVec.eq_of_getLsbD_eq
  intro i hi
  cases i with
  | zero => simpa using h0
  | succ j =>
    have : (L a).getLsbD j = false := by rw [h]; simp
    unfold L at this
    rw [BitVec.getLsbD_xor, BitVec.getLsbD_ushiftRight, h0] at this
    simp at this
    rw [Nat.add_comm] at this
    simpa using this

theorem xor_eq_zero {a b : BitVec 32} (h : a ^^^ b = 0#32) : a = b := by
  have : (a ^^^ b) ^^^ b = 0#32 ^^^ b := by rw [h]
  rw [BitVec.xor_assoc] at this
  simpa using this

theorem L_inj {a b : BitVec 32} (h : L a = L b) : a = b := by
  apply xor_eq_zero
  apply L_inj0
  rw [L_xor, h]; simp

def Ln : Nat → BitVec 32 → BitVec 32
  | 0, c => c
  | k + 1, c => Ln k (L c)

theorem Ln_xor (k : Nat) : ∀ a b, Ln k (a ^^^ b) = Ln k a ^^^ Ln k b := by
  induction k with
  | zero => intro a b; rfl
  | succ k ih => intro a b; simp only [Ln]; rw [L_xor, ih]

theorem Ln_inj (k : Nat) : ∀ {a b}, Ln k a = Ln k b → a = b := by
  induction k with
  | zero => intro a b h; exact h
  | succ k ih => intro a b h; exact L_inj (ih h)

theorem Ln_add (j k : Nat) : ∀ c, Ln (j + k) c = Ln k (Ln j c) := by
  induction j with
  | zero => intro c; simp [Ln]
  | succ j ih => intro c; rw [Nat.succ_add]; simp only [Ln]; exact ih _

theorem Ln_low (k : Nat) : ∀ x : BitVec 32, (∀ i, i < k → x.getLsbD i = false) → Ln k x = x >>> k := by
  induction k with
  | zero => intro x _; simp [Ln]
  | succ k ih =>
    intro x h
    have h0 := h 0 (by omega)
    have e : L x = x >>> 1 := by unfold L; rw [h0]; simp
    simp only [Ln]
    rw [e, ih]
    · rw [← BitVec.shiftRight_add, Nat.add_comm]
    · intro i hi
      rw [BitVec.getLsbD_ushiftRight]
      exact h (1 + i) (by omega)

/-- the register behind one byte -/
def byte (c : BitVec 32) (b : UInt8) : BitVec 32 := Ln 8 (c ^^^ b.toBitVec.setWidth 32)
def reg (c : BitVec 32) (l : List UInt8) : BitVec 32 := l.foldl byte c
def sum (ahead : BitVec 32) (l : List UInt8) : BitVec 32 := ~~~ (reg (~~~ ahead) l)

theorem reg_append (c : BitVec 32) (a b : List UInt8) : reg c (a ++ b) = reg (reg c a) b := by
  simp [reg, List.foldl_append]

theorem sum_append (c : BitVec 32) (a b : List UInt8) : sum (sum c a) b = sum c (a ++ b) := by
  simp [sum, reg_append]

theorem byte_inj_reg {c d : BitVec 32} {b : UInt8} (h : byte c b = byte d b) : c = d := by
  have := Ln_inj 8 h
  have e : (c ^^^ b.toBitVec.setWidth 32) ^^^ b.toBitVec.setWidth 32 = (d ^^^ b.toBitVec.setWidth 32) ^^^ b.toBitVec.setWidth 32 := by rw [this]
  simpa [BitVec.xor_assoc] using e

theorem reg_inj (l : List UInt8) : ∀ {c d : BitVec 32}, reg c l = reg d l → c = d := by
  induction l with
  | nil => intro c d h; exact h
  | cons b l ih => intro c d h; exact byte_inj_reg (ih h)

theorem sum_inj (l : List UInt8) {c d : BitVec 32} (h : sum c l = sum d l) : c = d := by
  have h1 : reg (~~~ c) l = reg (~~~ d) l := by
    have := congrArg (~~~ ·) h
    simpa [sum] using this
  have := congrArg (~~~ ·) (reg_inj l h1)
  simpa using this

theorem byte_inj {c : BitVec 32} {a b : UInt8} (h : byte c a = byte c b) : a = b := by
  have h1 := Ln_inj 8 h
  have e : a.toBitVec.setWidth 32 = b.toBitVec.setWidth 32 := by
    have : c ^^^ (c ^^^ a.toBitVec.setWidth 32) = c ^^^ (c ^^^ b.toBitVec.setWidth 32) := by rw [h1]
    simpa [← BitVec.xor_assoc] using this
  have := congrArg BitVec.toNat e
  simp at this
  apply UInt8.toNat_inj.1
  have ha := a.toNat_lt
  have hb := b.toNat_lt
  omega

/-- four bytes behind one another are their word, all at once -/
def word (a b c d : UInt8) : BitVec 32 :=
  a.toBitVec.setWidth 32 ^^^ (b.toBitVec.setWidth 32 <<< 8) ^^^ (c.toBitVec.setWidth 32 <<< 16) ^^^ (d.toBitVec.setWidth 32 <<< 24)

theorem Ln_shl (k m : Nat) (b : UInt8) (h : k + 8 ≤ 32) (hm : k = m) : Ln m (b.toBitVec.setWidth 32 <<< k) = b.toBitVec.setWidth 32 := by
  subst hm
  rw [Ln_low]
  · apply BitVec.eq_of_toNat_eq
    have hb := b.toNat_lt
    simp [BitVec.toNat_ushiftRight, BitVec.toNat_shiftLeft, Nat.shiftLeft_eq, Nat.shiftRight_eq_div_pow]
    have h2 : (2:Nat) ^ (k + 8) ≤ 2 ^ 32 := Nat.pow_le_pow_right (by omega) h
    rw [Nat.pow_add] at h2
    have h3 : b.toNat * 2 ^ k < 4294967296 := by
      have hp : 0 < 2 ^ k := Nat.pow_pos (by omega)
      calc b.toNat * 2 ^ k < 256 * 2 ^ k := Nat.mul_lt_mul_of_pos_right (by omega) hp
        _ ≤ _ := by omega
    have h4 : b.toNat % 4294967296 = b.toNat := Nat.mod_eq_of_lt (by omega)
    first
      | (rw [h4, Nat.mod_eq_of_lt h3, Nat.mul_div_cancel _ (Nat.pow_pos (by omega))])
      | (rw [Nat.mod_eq_of_lt h3, Nat.mul_div_cancel _ (Nat.pow_pos (by omega))])
  · intro i hi
    simp [BitVec.getLsbD_shiftLeft]
    omega

theorem reg_word (r : BitVec 32) (a b c d : UInt8) : reg r [a, b, c, d] = Ln 32 (r ^^^ word a b c d) := by
  have h8 : Ln 8 (b.toBitVec.setWidth 32 <<< 8) = b.toBitVec.setWidth 32 := Ln_shl 8 8 b (by omega) rfl
  have h16 : Ln 16 (c.toBitVec.setWidth 32 <<< 16) = c.toBitVec.setWidth 32 := Ln_shl 16 16 c (by omega) rfl
  have h24 : Ln 24 (d.toBitVec.setWidth 32 <<< 24) = d.toBitVec.setWidth 32 := Ln_shl 24 24 d (by omega) rfl
  have e1 : ∀ x, Ln 16 x = Ln 8 (Ln 8 x) := fun x => Ln_add 8 8 x
  have e2 : ∀ x, Ln 24 x = Ln 8 (Ln 8 (Ln 8 x)) := fun x => (Ln_add 16 8 x).trans (congrArg (Ln 8) (e1 x))
  have e3 : ∀ x, Ln 32 x = Ln 8 (Ln 8 (Ln 8 (Ln 8 x))) := fun x => (Ln_add 24 8 x).trans (congrArg (Ln 8) (e2 x))
  rw [e1] at h16
  rw [e2] at h24
  simp only [reg, List.foldl, byte]
  rw [e3, word]
  simp only [Ln_xor]
  rw [h8, h16, h24]
  simp only [BitVec.xor_assoc]

def refstep (c : BitVec 32) (bit : Bool) : BitVec 32 := if c.getLsbD 0 != bit then (c >>> 1) ^^^ poly else c >>> 1

theorem L_ref (c b : BitVec 32) : L (c ^^^ b) = refstep c (b.getLsbD 0) ^^^ (b >>> 1) := by
  unfold L refstep
  apply BitVec.eq_of_getLsbD_eq
  intro i hi
  rw [BitVec.getLsbD_xor (x := c)]
  cases hc : c.getLsbD 0 <;> cases hb : b.getLsbD 0 <;>
    simp only [BitVec.getLsbD_xor, BitVec.getLsbD_ushiftRight, Bool.xor_false, Bool.xor_true, Bool.not_false, bne_self_eq_false, Bool.false_eq_true, if_true, if_false, BitVec.getLsbD_zero] <;>
    cases c.getLsbD (1 + i) <;> cases b.getLsbD (1 + i) <;> cases poly.getLsbD i <;> rfl

/-- the reference's bits of a byte, from the k-th on, n of them -/
def refbits : Nat → Nat → BitVec 32 → BitVec 32 → BitVec 32
  | 0, _, _, c => c
  | n + 1, k, b, c => refbits n (k + 1) b (refstep c (b.getLsbD k))

theorem refbits_eq (b : BitVec 32) (n : Nat) : ∀ (k : Nat) (c : BitVec 32), Ln n (c ^^^ (b >>> k)) = refbits n k b c ^^^ (b >>> (k + n)) := by
  induction n with
  | zero => intro k c; simp [Ln, refbits]
  | succ n ih =>
    intro k c
    simp only [Ln, refbits]
    rw [L_ref, ← BitVec.shiftRight_add, ih (k + 1)]
    rw [BitVec.getLsbD_ushiftRight]
    simp only [Nat.add_zero]
    rw [show k + 1 + n = k + (n + 1) by omega]

theorem byte_ref (c : BitVec 32) (b : UInt8) : byte c b = refbits 8 0 (b.toBitVec.setWidth 32) c := by
  have h := refbits_eq (b.toBitVec.setWidth 32) 8 0 c
  have e : (b.toBitVec.setWidth 32) >>> (0 + 8) = 0#32 := by
    apply BitVec.eq_of_toNat_eq
    have hb := b.toNat_lt
    simp [Nat.shiftRight_eq_div_pow]
    omega
  rw [e] at h
  simp at h
  exact h

def bytes (c : BitVec 32) : List UInt8 := [⟨c.setWidth 8⟩, ⟨(c >>> 8).setWidth 8⟩, ⟨(c >>> 16).setWidth 8⟩, ⟨(c >>> 24).setWidth 8⟩]
def wordOf : List UInt8 → BitVec 32
  | [a, b, c, d] => word a b c d
  | _ => 0#32
theorem word_bytes (c : BitVec 32) : word ⟨c.setWidth 8⟩ ⟨(c >>> 8).setWidth 8⟩ ⟨(c >>> 16).setWidth 8⟩ ⟨(c >>> 24).setWidth 8⟩ = c := by
  unfold word
  apply BitVec.eq_of_getLsbD_eq
  intro i hi
  simp [BitVec.getLsbD_xor, BitVec.getLsbD_shiftLeft, BitVec.getLsbD_ushiftRight]
  by_cases h1 : i < 8
  · simp [h1, show i < 16 by omega, show i < 24 by omega, show i < 32 by omega]
  · by_cases h2 : i < 16
    · simp [h1, h2, show i < 24 by omega, show i < 32 by omega, show i - 8 < 8 by omega, show 8 + (i - 8) = i by omega, show i - 8 < 32 by omega]
    · by_cases h3 : i < 24
      · simp [h1, h2, h3, show i < 32 by omega, show i - 16 < 8 by omega, show ¬ i - 8 < 8 by omega, show 16 + (i - 16) = i by omega, show i - 16 < 32 by omega]
      · simp [h1, h2, h3, hi, show i - 24 < 8 by omega, show ¬ i - 8 < 8 by omega, show ¬ i - 16 < 8 by omega, show 24 + (i - 24) = i by omega, show i - 24 < 32 by omega]

def resid : BitVec 32 := Ln 32 (~~~ 0#32)
theorem reg_holds (c : BitVec 32) : reg c (bytes (~~~ c)) = resid := by
  unfold bytes
  rw [reg_word, word_bytes, resid]
  congr 1
  apply BitVec.eq_of_getLsbD_eq
  intro i hi
  simp only [BitVec.getLsbD_xor, BitVec.getLsbD_not, hi, decide_true, Bool.true_and, BitVec.getLsbD_zero, Bool.not_false]
  cases c.getLsbD i <;> rfl

/-- a text with its sum behind it leaves the same register, whatever the text -/
theorem holds_resid {x y : List UInt8} (h : bytes (sum 0#32 x) = y) : reg (~~~ 0#32) (x ++ y) = resid := by
  subst h
  rw [reg_append]
  exact reg_holds _

theorem word_xor (a b c d a' b' c' d' : UInt8) : word (a ^^^ a') (b ^^^ b') (c ^^^ c') (d ^^^ d') = word a b c d ^^^ word a' b' c' d' := by
  have e : ∀ x y : UInt8, (x ^^^ y).toBitVec.setWidth 32 = x.toBitVec.setWidth 32 ^^^ y.toBitVec.setWidth 32 := fun x y => by rw [UInt8.toBitVec_xor, BitVec.setWidth_xor]
  unfold word
  rw [e, e, e, e]
  generalize a.toBitVec.setWidth 32 = A
  generalize b.toBitVec.setWidth 32 = B
  generalize c.toBitVec.setWidth 32 = C
  generalize d.toBitVec.setWidth 32 = D
  generalize a'.toBitVec.setWidth 32 = A'
  generalize b'.toBitVec.setWidth 32 = B'
  generalize c'.toBitVec.setWidth 32 = C'
  generalize d'.toBitVec.setWidth 32 = D'
  rw [BitVec.shiftLeft_xor_distrib, BitVec.shiftLeft_xor_distrib, BitVec.shiftLeft_xor_distrib]
  generalize B <<< 8 = b1
  generalize C <<< 16 = c1
  generalize D <<< 24 = d1
  generalize B' <<< 8 = b2
  generalize C' <<< 16 = c2
  generalize D' <<< 24 = d2
  ac_rfl

theorem turned (p q : List UInt8) (a b c d : UInt8) (w r : BitVec 32) (hw : w ≠ 0#32) :
    reg r (p ++ [a ^^^ ⟨w.setWidth 8⟩, b ^^^ ⟨(w >>> 8).setWidth 8⟩, c ^^^ ⟨(w >>> 16).setWidth 8⟩, d ^^^ ⟨(w >>> 24).setWidth 8⟩] ++ q) ≠ reg r (p ++ [a, b, c, d] ++ q) := by
  intro h
  rw [reg_append, reg_append, reg_append, reg_append] at h
  have h1 := reg_inj q h
  rw [reg_word, reg_word] at h1
  have h2 := Ln_inj 32 h1
  rw [word_xor, word_bytes] at h2
  apply hw
  generalize reg r p = r0 at h2
  have h3 : (r0 ^^^ word a b c d) ^^^ (r0 ^^^ (word a b c d ^^^ w)) = 0#32 := by rw [h2]; simp
  rw [← BitVec.xor_assoc r0] at h3
  rw [← BitVec.xor_assoc] at h3
  simpa using h3
end Go.Proofs.YtefkodglfhonpaaDoor.Crc
