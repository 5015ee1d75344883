/- The contract of the reference's Add: the sum, bit by bit. Conditions: none. -/
import Derived.Test.YtjjlfkbgieloeaaDoorBits
namespace Go.Proofs.YtjjlfkbgieloeaaDoor
open Go.RowKit Go.BigFrame
theorem hi_set (o i : Nat) (ho : o < 2 ^ i) (h : 64 ≤ i) (h2 : i < 128) : hi (o + 2 ^ i) = hi o + 2 ^ (i - 64) ∧ lo (o + 2 ^ i) = lo o ∧ hi o + 2 ^ (i - 64) < 18446744073709551616 := by
  have e : 2 ^ i = 18446744073709551616 * 2 ^ (i - 64) := by
    rw [show (18446744073709551616 : Nat) = 2 ^ 64 by rfl, ← Nat.pow_add, show 64 + (i - 64) = i by omega]
  have hq : o / 18446744073709551616 < 2 ^ (i - 64) := by
    rw [Nat.div_lt_iff_lt_mul (by decide), Nat.mul_comm, ← e]
    exact ho
  have hp : (2 : Nat) ^ (i - 64) ≤ 2 ^ 63 := Nat.pow_le_pow_right (by omega) (by omega)
  have hc : ((2 ^ (i - 64) : Nat) : Int) = (2 : Int) ^ (i - 64) := by simp
  unfold hi lo
  refine ⟨?_, ?_, ?_⟩
  · rw [e, Nat.add_mul_div_left _ _ (by decide), ← hc]
    omega
  · rw [e, Nat.add_mul_mod_self_left]
  · rw [← hc]
    have : (2 : Nat) ^ 63 = 9223372036854775808 := by decide
    omega
theorem lo_set (o i : Nat) (ho : o < 2 ^ i) (h : i < 64) : hi (o + 2 ^ i) = hi o ∧ lo (o + 2 ^ i) = lo o + 2 ^ i ∧ lo o + 2 ^ i < 18446744073709551616 := by
  have hp : (2 : Nat) ^ i ≤ 2 ^ 63 := Nat.pow_le_pow_right (by omega) (by omega)
  have : (2 : Nat) ^ 63 = 9223372036854775808 := by decide
  have hc : ((2 ^ i : Nat) : Int) = (2 : Int) ^ i := by simp
  unfold hi lo
  rw [← hc]
  refine ⟨?_, ?_, ?_⟩ <;> omega
def addList (w : World) (a b o : Nat) : List (Nat × Int × Int) := [(w.heap.size, hi a, lo a), (w.heap.size + 1, hi b, lo b), (w.heap.size + 1 + 1, 0, 0), (w.heap.size + 1 + 1 + 1, hi o, lo o)]
theorem Has.store {w w1 : World} {a b o x : Nat} (h : Has w (addList w a b o) w1) : Has w (addList w a b x) ((w1.setCell ⟨w.heap.size + 1 + 1 + 1, 0, none⟩ (.int .u64 (hi x))).setCell ⟨w.heap.size + 1 + 1 + 1, 1, none⟩ (.int .u64 (lo x))) := by
  have h0 := h.get 0 rfl
  have h1 := h.get 1 rfl
  have h2 := h.get 2 rfl
  have h3 := h.get 3 rfl
  refine ⟨?_, below_set (below_set h.bel (by omega)) (by omega)⟩
  intro y hy
  simp only [addList, List.mem_cons, List.mem_nil_iff, or_false] at hy
  rcases hy with rfl | rfl | rfl | rfl
  · exact (h0.far (p := ⟨w.heap.size + 1 + 1 + 1, 0, none⟩) (by simp; omega) _).far (p := ⟨w.heap.size + 1 + 1 + 1, 1, none⟩) (by simp; omega) _
  · exact (h1.far (p := ⟨w.heap.size + 1 + 1 + 1, 0, none⟩) (by simp) _).far (p := ⟨w.heap.size + 1 + 1 + 1, 1, none⟩) (by simp) _
  · exact (h2.far (p := ⟨w.heap.size + 1 + 1 + 1, 0, none⟩) (by simp) _).far (p := ⟨w.heap.size + 1 + 1 + 1, 1, none⟩) (by simp) _
  · exact (h3.set_ 0 _).set_ 1 _
theorem ret_num {a b x y : Int} (h : a = x) (k : b = y) : Ending.returned (.agg #[.int .u64 a, .int .u64 b]) = .returned (.agg #[.int .u64 x, .int .u64 y]) := by rw [h, k]
theorem set_hi (h l x y : Int) (i : Nat) (w : World) (hx : Hid (IntKind.u64.wrap (h + IntKind.u64.wrap (2 ^ (i - 64))) = x ∧ l = y)) (h2 : i < 128) (h3 : 64 ≤ i) :
    Calls Tryd.prog 43 #[.agg #[.int .u64 h, .int .u64 l], .int .i64 i] w fun e w' => e = .returned (.agg #[.int .u64 x, .int .u64 y]) ∧ Below w.heap.size w w' := by
  go_enter Tryd.func43, Tryd.ntmps43
  go_wp2
  exact bodyPost_ret (v := .agg #[.int .u64 (IntKind.u64.wrap (h + IntKind.u64.wrap (2 ^ (i - 64)))), .int .u64 l]) (by simp [results, Tryd.results43, go_sem]) rfl ⟨ret_num hx.out.1 hx.out.2, below_al (below_al (Below.refl _ _) _) _⟩
theorem set_lo (h l x y : Int) (i : Nat) (w : World) (hx : Hid (h = x ∧ IntKind.u64.wrap (l + IntKind.u64.wrap (2 ^ i)) = y)) (h3 : i < 64) :
    Calls Tryd.prog 43 #[.agg #[.int .u64 h, .int .u64 l], .int .i64 i] w fun e w' => e = .returned (.agg #[.int .u64 x, .int .u64 y]) ∧ Below w.heap.size w w' := by
  go_enter Tryd.func43, Tryd.ntmps43
  go_wp2
  exact bodyPost_ret (v := .agg #[.int .u64 h, .int .u64 (IntKind.u64.wrap (l + IntKind.u64.wrap (2 ^ i)))]) (by simp [results, Tryd.results43, go_sem]) rfl ⟨ret_num hx.out.1 hx.out.2, below_al (below_al (Below.refl _ _) _) _⟩
theorem wrap_set (x : Int) (k : Nat) (h0 : 0 ≤ x) (h : x + 2 ^ k < 18446744073709551616) : IntKind.u64.wrap (x + IntKind.u64.wrap (2 ^ k)) = x + 2 ^ k := by
  have hc : (2 : Int) ^ k = ((2 ^ k : Nat) : Int) := by simp
  rw [hc] at h ⊢
  generalize (2 ^ k : Nat) = p at *
  rw [IntKind.wrap_u64, IntKind.wrap_u64]
  omega
theorem set_any (o i : Nat) (w : World) (ho : o < 2 ^ i) (h2 : i < 128) :
    Calls Tryd.prog 43 #[A o, .int .i64 i] w fun e w' => e = .returned (.agg #[.int .u64 (hi (o + 2 ^ i)), .int .u64 (lo (o + 2 ^ i))]) ∧ Below w.heap.size w w' := by
  by_cases h : 64 ≤ i
  · obtain ⟨e1, e2, e3⟩ := hi_set o i ho h h2
    exact set_hi _ _ _ _ i w (Lib.hid ⟨by rw [e1]; exact wrap_set _ _ (by unfold hi; omega) e3, e2.symm⟩) h2 h
  · obtain ⟨e1, e2, e3⟩ := lo_set o i ho (by omega)
    exact set_lo _ _ _ _ i w (Lib.hid ⟨e1.symm, by rw [e2]; exact wrap_set _ _ (by unfold lo; omega) e3⟩) (by omega)
theorem set_is (o i x : Nat) (w : World) (ho : o < 2 ^ i) (h2 : i < 128) (h : o + 2 ^ i = x) :
    Calls Tryd.prog 43 #[A o, .int .i64 i] w fun e w' => e = .returned (.agg #[.int .u64 (hi x), .int .u64 (lo x)]) ∧ Below w.heap.size w w' := h ▸ set_any o i w ho h2
end Go.Proofs.YtjjlfkbgieloeaaDoor
