/- The contract of the reference's Show: the digits. Conditions: a number of 128 bits. -/
import Derived.Test.YtjjlfkbgieloeaaDoorDigs
import Derived.Test.YtjjlfkbgieloeaaDoorBits
import Derived.Test.YtjjlfkbgieloeaaDoorShowP
import Derived.PlainAid
namespace Go.Proofs.YtjjlfkbgieloeaaDoor
open Go.RowKit Go.Proofs.YtjjlfkbgieloeaaDoorW.PrintWords Go.Proofs.YtjjlfkbgieloeaaDoorW.PrintLast Go.Proofs.YtjjlfkbgieloeaaDoorW.PrintMore PWideParses
theorem small64 (n : Int) (h : -9223372036854775808 ≤ n ∧ n ≤ 9223372036854775807) : wrap64 n = n := by
  rw [← Go.PlainAid.i64_is]; exact IntWalk.i64_in n h
theorem bit_f (a i : Nat) (h : i < 128) : bondstoreref01_Bit.f (hi a) (lo a) (i : Int) = some (bitI a i) := by
  unfold bondstoreref01_Bit.f
  by_cases h1 : 64 ≤ i
  · have e : IntKind.u64.wrap (wrap64 ((i : Int) - 64)) = ((i - 64 : Nat) : Int) := by
      rw [small64 _ (by omega), IntKind.wrap_u64]; omega
    rw [if_pos (by omega), e, if_pos (by omega)]
    unfold shr
    rw [Int.toNat_natCast, show min (i - 64) IntKind.u64.bits = i - 64 from Nat.min_eq_left (by show i - 64 ≤ 64; omega), bit_hi_eq a i h1]
  · have e : IntKind.u64.wrap (i : Int) = (i : Int) := by rw [IntKind.wrap_u64]; omega
    rw [if_neg (by omega), e, if_pos (by omega)]
    unfold shr
    rw [Int.toNat_natCast, show min i IntKind.u64.bits = i from Nat.min_eq_left (by show i ≤ 64; omega), bit_lo_eq a i (by omega)]
def ints (l : List Nat) : List Int := l.map fun d : Nat => (d : Int)
theorem l2_run : ∀ (Q P : List Nat) (s : ByteArray), s.size + Q.length ≤ 1000 → (P ++ Q).length ≤ 1000 → (∀ d ∈ Q, d < 10) →
    bondstoreref01_Show.l2 (Q.length + 1) s (ints (P ++ Q)) ((ints (P ++ Q)).length : Int) (P.length : Int) = some (s ++ strOfNums (Q.map fun d : Nat => 48 + (d : Int)))
  | [], P, s, _, _, _ => by
    rw [bondstoreref01_Show.l2, if_neg (by simp [ints])]
    congr 1
    apply ByteArray.ext
    simp [strOfNums]
  | d :: Q, P, s, h1, h2, h3 => by
    have hd := h3 d (by simp)
    have hlen : (ints (P ++ d :: Q)).length = P.length + (Q.length + 1) := by simp [ints]
    have hrd : rd (ints (P ++ d :: Q)) (P.length : Int) = d := by
      unfold rd ints
      simp [List.getD_eq_getElem?_getD]
    have ih := l2_run Q (P ++ [d]) (s ++ strOfNums [48 + (d : Int)]) (by
      rw [ByteArray.size_append]; simp at h1; have : (strOfNums [48 + (d : Int)]).size = 1 := rfl; omega) (by simp at h2 ⊢; omega) (fun x hx => h3 x (List.mem_cons_of_mem _ hx))
    rw [show P ++ [d] ++ Q = P ++ d :: Q by simp] at ih
    simp only [List.length_cons] at h1
    rw [List.length_cons, bondstoreref01_Show.l2, if_pos (by rw [hlen]; omega), if_pos (by omega), if_pos (by rw [hlen]; omega), hrd, small64 _ (by omega)]
    have e : (48 + (d : Int)) % 256 = 48 + d := by omega
    rw [e, Option.bind_some, if_pos (by have : (strOfNums [48 + (d : Int)]).size = 1 := rfl; omega), small64 _ (by simp at h2; omega)]
    rw [show ((P ++ [d]).length : Int) = (P.length : Int) + 1 by simp] at ih
    rw [ih]
    congr 1
    apply ByteArray.ext
    simp [strOfNums]
theorem l1_run (x4 h l : Int) (K : Nat) : ∀ (r B : List Nat) (c : Nat), c < 2 → (∀ d ∈ r, d < 10) → r.length ≤ 1000 →
    bondstoreref01_Show.l1 (K + r.length + 1) (ints (r.reverse ++ B)) x4 (c : Int) ((r.length : Int) - 1) h l = bondstoreref01_Show.l1 (K + 1) (ints ((dbl r c).1.reverse ++ B)) x4 ((dbl r c).2 : Int) (-1) h l
  | [], B, c, _, _, _ => by simp [dbl]
  | d :: r, B, c, hc, h3, h4 => by
    have hd := h3 d (by simp)
    simp only [List.length_cons] at h4
    have ix : ((d :: r).length : Int) - 1 = (r.length : Int) := by simp
    have hlen : (ints ((d :: r).reverse ++ B)).length = r.length + 1 + B.length := by simp [ints]; omega
    have hrd : rd (ints ((d :: r).reverse ++ B)) (r.length : Int) = d := by
      unfold rd ints
      simp [List.getD_eq_getElem?_getD]
    have hset : (ints ((d :: r).reverse ++ B)).set ((r.length : Int)).toNat (((2 * d + c) % 10 : Nat) : Int) = ints (r.reverse ++ ((2 * d + c) % 10 :: B)) := by
      unfold ints
      simp
    have ih := l1_run x4 h l K r ((2 * d + c) % 10 :: B) ((2 * d + c) / 10) (by omega) (fun x hx => h3 x (List.mem_cons_of_mem _ hx)) (by omega)
    rw [ix, List.length_cons, show K + (r.length + 1) + 1 = (K + r.length + 1) + 1 by omega]
    conv => lhs; rw [bondstoreref01_Show.l1]
    rw [if_pos (by omega), if_pos (by omega), if_pos (by rw [hlen]; omega), hrd, small64 (2 * (d : Int)) (by omega), small64 _ (by omega)]
    have e1 : Int.tmod (2 * (d : Int) + c) 10 = (((2 * d + c) % 10 : Nat) : Int) := by rw [Int.tmod_eq_emod_of_nonneg (by omega)]; omega
    have e2 : Int.tdiv (2 * (d : Int) + c) 10 = (((2 * d + c) / 10 : Nat) : Int) := by rw [Int.tdiv_eq_ediv_of_nonneg (by omega)]; omega
    rw [e1, e2, hset, small64 _ (by omega), small64 _ (by omega), ih, dbl_cons]
    congr 1
    simp
theorem l0_run (a : Nat) (ha : a < M) : ∀ n : Nat, n ≤ 128 → ∃ K, bondstoreref01_Show.l0 K (ints (digr (a / 2 ^ n)).reverse) ((n : Int) - 1) (hi a) (lo a) = some ⟨(decs a).toArray⟩
  | 0, _ => by
    have hlen := digr_len a 38 (by unfold M at ha; omega)
    refine ⟨(digr a).reverse.length + 1 + 1, ?_⟩
    rw [Nat.pow_zero, Nat.div_one, bondstoreref01_Show.l0, if_neg (by omega)]
    have h := l2_run (digr a).reverse [] ⟨#[]⟩ (by simp [ByteArray.size]; omega) (by simp; omega) (fun d hd => digr_lt a d (by simpa using hd))
    simp only [List.nil_append, List.length_nil] at h
    rw [show ((0 : Nat) : Int) = 0 by rfl] at h
    rw [h, digr_decs]
    congr 1
    apply ByteArray.ext
    simp [strOfNums]
    intro d _
    rw [show (48 + (d : Int)).toNat = 48 + d by omega]
    simp
  | n + 1, hn => by
    obtain ⟨K, ih⟩ := l0_run a ha n (by omega)
    have hv : a / 2 ^ (n + 1) < 10 ^ 39 := by
      have := Nat.div_le_self a (2 ^ (n + 1))
      unfold M at ha
      omega
    have hlen := digr_len _ 38 hv
    have hb : a / 2 ^ n % 2 < 2 := Nat.mod_lt _ (by omega)
    have hsp := bit_split a n
    obtain ⟨h1, h2⟩ := dbl_digr (a / 2 ^ (n + 1)) (a / 2 ^ n % 2) hb
    rw [← hsp] at h1
    have hl2 := dbl_len (digr (a / 2 ^ (n + 1))) (a / 2 ^ n % 2)
    refine ⟨K + (digr (a / 2 ^ (n + 1))).length + 1 + 1, ?_⟩
    rw [bondstoreref01_Show.l0, if_pos (by omega), show ((n + 1 : Nat) : Int) - 1 = (n : Int) by omega, bit_f a n (by omega), Option.bind_some]
    have hr := l1_run (n : Int) (hi a) (lo a) K (digr (a / 2 ^ (n + 1))) [] (a / 2 ^ n % 2) hb (digr_lt _) (by omega)
    simp only [List.append_nil] at hr
    have hli : ((ints (digr (a / 2 ^ (n + 1))).reverse).length : Int) = (digr (a / 2 ^ (n + 1))).length := by simp [ints]
    rw [hli, small64 _ (by omega)]
    unfold bitI
    rw [hr, bondstoreref01_Show.l1, if_neg (by omega)]
    rw [← h1] at ih
    unfold withc at ih
    by_cases hc : 0 < (dbl (digr (a / 2 ^ (n + 1))) (a / 2 ^ n % 2)).2
    · rw [if_pos hc] at ih
      rw [if_pos (by omega), Option.bind_some, if_pos (by simp [ints]; omega), small64 _ (by omega)]
      simpa [ints] using ih
    · rw [if_neg hc] at ih
      rw [if_neg (by omega), small64 _ (by omega)]
      exact ih
theorem refshow_any (a : Nat) (w : World) (ha : a < M) :
    Calls Tryd.prog 37 #[A a] w fun e w' => e = .returned (.string ⟨(decs a).toArray⟩) ∧ Below w.heap.size w w' := by
  obtain ⟨K, h⟩ := l0_run a ha 128 (by omega)
  refine bondstoreref01_Show.calls K (hi a) (lo a) _ w ?_
  have e : a / 2 ^ 128 = 0 := by unfold M at ha; omega
  rw [e, digr_low 0 (by omega)] at h
  exact h
end Go.Proofs.YtjjlfkbgieloeaaDoor
