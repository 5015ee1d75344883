/- The plain law of sectors: what is read is just the sector's bytes; of two that are torn one is read, or none. Conditions: none. -/
namespace Go.Proofs.YtefkodglfhonpaaDoor.Pl
/-- a number's k lowest bytes, the lowest first -/
def le (k n : Nat) : List UInt8 := (List.range k).map fun j => UInt8.ofNat (n / 2 ^ (8 * j))
/-- bytes as a number, the lowest first -/
def lev : List UInt8 → Nat
  | [] => 0
  | b :: l => b.toNat + 256 * lev l
theorem le_length (k n : Nat) : (le k n).length = k := by simp [le]
theorem le_succ (k n : Nat) : le (k + 1) n = le k n ++ [UInt8.ofNat (n / 2 ^ (8 * k))] := by
  unfold le; rw [List.range_succ, List.map_append]; rfl
theorem le_cons (k n : Nat) : le (k + 1) n = UInt8.ofNat n :: le k (n / 256) := by
  induction k generalizing n with
  | zero => rw [le_succ]; simp [le]
  | succ k ih =>
    rw [le_succ, ih, le_succ k (n / 256), List.cons_append]
    congr 3
    rw [show (256 : Nat) = 2 ^ 8 by rfl, Nat.div_div_eq_div_mul, ← Nat.pow_add]
    congr 2
    rw [show 8 * (k + 1) = 8 + 8 * k by omega]
theorem lev_lt : ∀ l : List UInt8, lev l < 2 ^ (8 * l.length)
  | [] => by simp [lev]
  | b :: l => by
    have h1 := lev_lt l
    have h2 := b.toNat_lt
    have e : 2 ^ (8 * (b :: l).length) = 256 * 2 ^ (8 * l.length) := by
      rw [show 8 * (b :: l).length = 8 + 8 * l.length by simp; omega, Nat.pow_add]
    show b.toNat + 256 * lev l < _
    rw [e]
    omega
theorem lev_append : ∀ a b : List UInt8, lev (a ++ b) = lev a + 2 ^ (8 * a.length) * lev b
  | [], b => by simp [lev]
  | x :: a, b => by
    have ih := lev_append a b
    show x.toNat + 256 * lev (a ++ b) = x.toNat + 256 * lev a + _
    rw [ih, show 8 * (x :: a).length = 8 + 8 * a.length by simp; omega, Nat.pow_add, Nat.mul_add, Nat.mul_assoc]
    omega
theorem lev_le (k : Nat) : ∀ n, lev (le k n) = n % 2 ^ (8 * k) := by
  induction k with
  | zero => intro n; simp [le, lev, Nat.mod_one]
  | succ k ih =>
    intro n
    rw [le_cons]
    show (UInt8.ofNat n).toNat + 256 * lev (le k (n / 256)) = _
    rw [ih, UInt8.toNat_ofNat', show 8 * (k + 1) = 8 + 8 * k by omega, Nat.pow_add, Nat.mod_mul]
theorem le_lev : ∀ l : List UInt8, le l.length (lev l) = l
  | [] => rfl
  | b :: l => by
    have h2 := b.toNat_lt
    rw [List.length_cons, le_cons]
    have e1 : UInt8.ofNat (lev (b :: l)) = b := by
      apply UInt8.toNat_inj.1
      rw [UInt8.toNat_ofNat']
      show (b.toNat + 256 * lev l) % 256 = _
      omega
    have e2 : lev (b :: l) / 256 = lev l := by
      show (b.toNat + 256 * lev l) / 256 = _
      omega
    rw [e1, e2, le_lev l]
theorem le_of (k : Nat) (l : List UInt8) (h : l.length = k) : le k (lev l) = l := by subst h; exact le_lev l
theorem le_mod (k n : Nat) : le k (n % 2 ^ (8 * k)) = le k n := by
  rw [← lev_le]
  exact le_of k _ (le_length k n)
theorem le_inj {k m n : Nat} (hm : m < 2 ^ (8 * k)) (hn : n < 2 ^ (8 * k)) (h : le k m = le k n) : m = n := by
  have := congrArg lev h
  rwa [lev_le, lev_le, Nat.mod_eq_of_lt hm, Nat.mod_eq_of_lt hn] at this
/-- a sector's first 116 bytes -/
def head (num idx : Nat) (d : List UInt8) : List UInt8 := le 8 num ++ (le 2 idx ++ (le 2 d.length ++ (d ++ List.replicate (104 - d.length) 0)))
/-- a sector's bytes; c: the sum's four of a text -/
def enc (c : List UInt8 → List UInt8) (num idx : Nat) (d : List UInt8) : List UInt8 := head num idx d ++ (c (head num idx d) ++ le 8 num)
theorem head_length (num idx : Nat) (d : List UInt8) (h : d.length ≤ 104) : (head num idx d).length = 116 := by
  simp only [head, List.length_append, le_length, List.length_replicate]; omega
theorem enc_length (c : List UInt8 → List UInt8) (hc : ∀ l, (c l).length = 4) (num idx : Nat) (d : List UInt8) (h : d.length ≤ 104) : (enc c num idx d).length = 128 := by
  simp only [enc, List.length_append, head_length num idx d h, hc, le_length]
theorem drop_app {α} (a b : List α) (n k : Nat) (h : a.length = n) : (a ++ b).drop (n + k) = b.drop k := by
  subst h; rw [List.drop_append]; simp
theorem take_app {α} (a b : List α) (n : Nat) (h : a.length = n) : (a ++ b).take n = a := by subst h; exact List.take_left
theorem drop_app0 {α} (a b : List α) (n : Nat) (h : a.length = n) : (a ++ b).drop n = b := by subst h; exact List.drop_left
section
variable {c : List UInt8 → List UInt8} (hc : ∀ l, (c l).length = 4) {num idx : Nat} {d : List UInt8} (hd : d.length ≤ 104)
include hc hd
theorem enc_sum : c ((enc c num idx d).take 116) = ((enc c num idx d).drop 116).take 4 := by
  unfold enc
  rw [take_app _ _ 116 (head_length num idx d hd), drop_app0 _ _ 116 (head_length num idx d hd), take_app _ _ 4 (hc _)]
theorem enc_last : (enc c num idx d).drop 120 = le 8 num := by
  unfold enc
  rw [drop_app _ _ 116 4 (head_length num idx d hd), drop_app0 _ _ 4 (hc _)]
omit hc hd in
theorem enc_cut : enc c num idx d = le 8 num ++ (le 2 idx ++ (le 2 d.length ++ (d ++ (List.replicate (104 - d.length) 0 ++ (c (head num idx d) ++ le 8 num))))) := by
  unfold enc
  conv => lhs; arg 1; unfold head
  simp only [List.append_assoc]
omit hc hd in
theorem enc_num : (enc c num idx d).take 8 = le 8 num := by
  rw [enc_cut, take_app _ _ 8 (le_length 8 num)]
omit hc hd in
theorem enc_idx : ((enc c num idx d).drop 8).take 2 = le 2 idx := by
  rw [enc_cut, drop_app0 _ _ 8 (le_length 8 num), take_app _ _ 2 (le_length 2 _)]
omit hc hd in
theorem enc_len : ((enc c num idx d).drop 10).take 2 = le 2 d.length := by
  rw [enc_cut, drop_app _ _ 8 2 (le_length 8 num), drop_app0 _ _ 2 (le_length 2 _), take_app _ _ 2 (le_length 2 _)]
omit hc hd in
theorem enc_data : ((enc c num idx d).drop 12).take d.length = d := by
  rw [enc_cut, drop_app _ _ 8 4 (le_length 8 num), drop_app _ _ 2 2 (le_length 2 _), drop_app0 _ _ 2 (le_length 2 _), List.take_left]
omit hc hd in
theorem enc_rest : ((enc c num idx d).drop (12 + d.length)).take (104 - d.length) = List.replicate (104 - d.length) 0 := by
  rw [enc_cut, show 12 + d.length = 8 + (4 + d.length) by omega, drop_app _ _ 8 _ (le_length 8 num), show 4 + d.length = 2 + (2 + d.length) by omega, drop_app _ _ 2 _ (le_length 2 _), drop_app _ _ 2 _ (le_length 2 _), List.drop_left, take_app _ _ _ (by simp)]
end
/-- what is read is the sector's bytes -/
theorem dec_enc {c : List UInt8 → List UInt8} {l : List UInt8} (hl : l.length = 128) (hs : c (l.take 116) = (l.drop 116).take 4) {n : Nat} (hn : n = lev ((l.drop 10).take 2)) (h104 : n ≤ 104)
    (hr : (l.drop (12 + n)).take (104 - n) = List.replicate (104 - n) 0) (hlast : l.drop 120 = l.take 8) :
    l = enc c (lev (l.take 8)) (lev ((l.drop 8).take 2)) ((l.drop 12).take n) := by
  have dl : ((l.drop 12).take n).length = n := by simp; omega
  have e8 : le 8 (lev (l.take 8)) = l.take 8 := le_of 8 _ (by simp; omega)
  have e2 : le 2 (lev ((l.drop 8).take 2)) = (l.drop 8).take 2 := le_of 2 _ (by simp; omega)
  have en : le 2 n = (l.drop 10).take 2 := by rw [hn]; exact le_of 2 _ (by simp; omega)
  have hh : head (lev (l.take 8)) (lev ((l.drop 8).take 2)) ((l.drop 12).take n) = l.take 116 := by
    unfold head
    rw [dl, e8, e2, en, ← hr]
    have k1 : (l.drop 12).take n ++ (l.drop (12 + n)).take (104 - n) = (l.drop 12).take 104 := by
      rw [← List.drop_drop, ← List.take_add, show n + (104 - n) = 104 by omega]
    rw [k1]
    have k2 : (l.drop 10).take 2 ++ (l.drop 12).take 104 = (l.drop 10).take 106 := by
      rw [show l.drop 12 = (l.drop 10).drop 2 by rw [List.drop_drop], ← List.take_add]
    rw [k2]
    have k3 : (l.drop 8).take 2 ++ (l.drop 10).take 106 = (l.drop 8).take 108 := by
      rw [show l.drop 10 = (l.drop 8).drop 2 by rw [List.drop_drop], ← List.take_add]
    rw [k3, ← List.take_add]
  unfold enc
  rw [hh, hs, e8, ← hlast]
  rw [show l.drop 120 = (l.drop 116).drop 4 by rw [List.drop_drop], List.take_append_drop, List.take_append_drop]
/-- of two sectors of unlike numbers the first bytes of one with the last ones of the other one: what is read is one of both -/
theorem torn {c : List UInt8 → List UInt8} (hc : ∀ l, (c l).length = 4) {n1 i1 n2 i2 n i : Nat} {d1 d2 d : List UInt8} (h1 : d1.length ≤ 104) (h2 : d2.length ≤ 104) (h : d.length ≤ 104) (b1 : n1 < 2 ^ 64) (b2 : n2 < 2 ^ 64) (b : n < 2 ^ 64) (hne : n1 ≠ n2)
    {k : Nat} (e : (enc c n1 i1 d1).take k ++ (enc c n2 i2 d2).drop k = enc c n i d) : enc c n i d = enc c n1 i1 d1 ∨ enc c n i d = enc c n2 i2 d2 := by
  obtain ⟨x, hx⟩ : ∃ x, x = enc c n1 i1 d1 := ⟨_, rfl⟩
  obtain ⟨y, hy⟩ : ∃ y, y = enc c n2 i2 d2 := ⟨_, rfl⟩
  obtain ⟨z, hz⟩ : ∃ z, z = enc c n i d := ⟨_, rfl⟩
  have lx : x.length = 128 := by rw [hx]; exact enc_length c hc _ _ _ h1
  have ly : y.length = 128 := by rw [hy]; exact enc_length c hc _ _ _ h2
  have x8 : x.take 8 = le 8 n1 := by rw [hx]; exact enc_num
  have y8 : y.take 8 = le 8 n2 := by rw [hy]; exact enc_num
  have z8 : z.take 8 = le 8 n := by rw [hz]; exact enc_num
  have x1 : x.drop 120 = le 8 n1 := by rw [hx]; exact enc_last hc h1
  have y1 : y.drop 120 = le 8 n2 := by rw [hy]; exact enc_last hc h2
  have z1 : z.drop 120 = le 8 n := by rw [hz]; exact enc_last hc h
  rw [← hx, ← hy, ← hz] at e
  rw [← hx, ← hy, ← hz]
  have inj : ∀ {p q : Nat}, p < 2 ^ 64 → q < 2 ^ 64 → le 8 p = le 8 q → p = q := fun hp hq h => le_inj (k := 8) hp hq h
  by_cases k120 : k ≤ 120
  · -- the last number is the second one's
    have a1 : z.drop 120 = y.drop 120 := by
      rw [← e, List.drop_append, List.drop_of_length_le (by simp; omega), List.nil_append, List.length_take, List.drop_drop]
      congr 1
      omega
    have en : n = n2 := inj b b2 (by rw [← z1, a1, y1])
    by_cases k8 : 8 ≤ k
    · have a2 : z.take 8 = x.take 8 := by
        rw [← e, List.take_append_of_le_length (by simp; omega), List.take_take]
        congr 1
        omega
      have : n = n1 := inj b b1 (by rw [← z8, a2, x8])
      omega
    · right
      have a3 : z.take 8 = y.take 8 := by rw [z8, y8, en]
      have a4 : x.take k = y.take k := by
        have := congrArg (List.take k) a3
        rw [List.take_take, List.take_take, show min k 8 = k by omega, ← e, List.take_append_of_le_length (by simp; omega), List.take_take, show min k k = k by omega] at this
        exact this
      rw [← e, a4, List.take_append_drop]
  · left
    have a2 : z.take 8 = x.take 8 := by
      rw [← e, List.take_append_of_le_length (by simp; omega), List.take_take]
      congr 1
      omega
    have en : n = n1 := inj b b1 (by rw [← z8, a2, x8])
    have a3 : z.drop 120 = x.drop 120 := by rw [z1, x1, en]
    have a4 : z.take 120 = x.take 120 := by
      rw [← e, List.take_append_of_le_length (by simp; omega), List.take_take]
      congr 1
      omega
    rw [← List.take_append_drop 120 z, a3, a4, List.take_append_drop]
theorem enc_inj {c : List UInt8 → List UInt8} {n1 i1 n2 i2 : Nat} {d1 d2 : List UInt8} (h1 : d1.length ≤ 104) (h2 : d2.length ≤ 104) (b1 : n1 < 2 ^ 64) (b2 : n2 < 2 ^ 64) (j1 : i1 < 2 ^ 16) (j2 : i2 < 2 ^ 16) (e : enc c n1 i1 d1 = enc c n2 i2 d2) : n1 = n2 ∧ i1 = i2 ∧ d1 = d2 := by
  have e8 := congrArg (List.take 8) e
  rw [enc_num, enc_num] at e8
  have e2 := congrArg (fun l => (List.drop 8 l).take 2) e
  simp only [enc_idx] at e2
  have el := congrArg (fun l => (List.drop 10 l).take 2) e
  simp only [enc_len] at el
  have hl : d1.length = d2.length := le_inj (k := 2) (by omega) (by omega) el
  have ed := congrArg (fun l => (List.drop 12 l).take d1.length) e
  simp only [enc_data] at ed
  rw [hl, enc_data] at ed
  exact ⟨le_inj (k := 8) b1 b2 e8, le_inj (k := 2) j1 j2 e2, ed⟩
end Go.Proofs.YtefkodglfhonpaaDoor.Pl
