/- Contracts of math/bits.Div64 at ten, and of wide.ten. Conditions: a high half below ten. -/
import Derived.Test.YtjjlfkbgieloeaaDoorNum
import Derived.Laws.BitsAllLaws
namespace Go.Proofs.YtjjlfkbgieloeaaDoor
open Go.RowKit
theorem ret2_u64 {a b c d : Int} (h : a = c) (k : b = d) : Ending.returned (.tuple #[.int .u64 a, .int .u64 b]) = .returned (.tuple #[.int .u64 c, .int .u64 d]) := by rw [h, k]
theorem uw_eq (n : Int) : IntKind.u64.wrap n = n % 18446744073709551616 := IntKind.wrap_u64 n
theorem div_low (l : Nat) (w : World) (hl : l < 18446744073709551616) :
    Calls Tryd.prog 57 #[.int .u64 0, .int .u64 l, .int .u64 10] w fun e w' => e = .returned (.tuple #[.int .u64 (l / 10 : Nat), .int .u64 (l % 10 : Nat)]) ∧ Below w.heap.size w w' := by
  have H := Lib.hid hl
  clear hl
  go_enter Tryd.func57, Tryd.ntmps57
  go_wp2
  go_quiet (fail)
  go_wp2
  go_ret2
  exact ⟨ret2_u64 (by rw [uw_eq]; have := H.out; omega) (by omega), drewN_below _ _⟩
theorem k_or (h l : Nat) (hh : h < 10) (hl : l < 18446744073709551616) : bits .or .u64 ((h : Int) * 1152921504606846976) ((l : Int) / 16) = ((h * 1152921504606846976 + l / 16 : Nat) : Int) := by
  have := bits_join .u64 64 (by decide) (fun n h0 h1 => by rw [uw_eq]; omega) 60 ((h : Int) * 1152921504606846976) ((l : Int) / 16) (by omega) (by omega) (by omega) (by omega) (by omega) (by omega)
  rw [this]
  omega
theorem k_mask (v : Int) (h0 : 0 ≤ v) (h : v < 18446744073709551616) : bits .and .u64 v 4294967295 = v % 4294967296 :=
  bits_mask .u64 64 (by decide) (fun n h0 h1 => by rw [uw_eq]; omega) 32 (by decide) v h0 h
set_option maxRecDepth 100000 in
theorem lz_ten (w : World) : Calls Tryd.prog 66 #[.int .u64 10] w fun e w' => e = .returned (.int .i64 60) ∧ w = w' := by
  go_enter Tryd.func66, Tryd.ntmps66
  go_wp2
  go_ret
  exact ⟨ret_i64 (by kernel_rfl), rfl⟩
theorem last_step (X Y T : Nat) (h : X * 268435456 = 2684354560 * Y + T) (hT : T < 2684354560) : Y = X / 10 ∧ T / 268435456 = X % 10 := by omega
/-- what Div64's steps are, at ten -/
structure Steps (h l U V V1 Q1 R1 N Q0 : Nat) : Prop where
  u : U = h * 1152921504606846976 + l / 16
  v : V = l % 16 * 1152921504606846976
  v1 : V1 = l % 16 * 268435456
  q1 : Q1 = U / 2684354560
  r1 : R1 = U % 2684354560
  n : N = R1 * 4294967296 + V1
  q0 : Q0 = N / 2684354560
section
variable {h l U V V1 Q1 R1 N Q0 : Nat}
theorem Steps.bd (s : Steps h l U V V1 Q1 R1 N Q0) (hh : h < 10) (hl : l < 18446744073709551616) : U < 11529215046068469760 ∧ V < 18446744073709551616 ∧ V1 < 4294967296 ∧ Q1 < 4294967296 ∧ R1 < 2684354560 ∧ N < 11529215046068469760 ∧ Q0 < 4294967296 := by
  obtain ⟨u, v, v1, q1, r1, n, q0⟩ := s
  have h1 : U < 11529215046068469760 := by omega
  have h2 : V1 < 4294967296 := by omega
  have h3 : R1 < 2684354560 := by omega
  have h4 : N < 11529215046068469760 := by omega
  exact ⟨h1, by omega, h2, by omega, h3, h4, by omega⟩
theorem Steps.div1 (s : Steps h l U V V1 Q1 R1 N Q0) : U = 2684354560 * Q1 + R1 := by
  obtain ⟨_, _, _, q1, r1, _, _⟩ := s
  omega
theorem Steps.ends (s : Steps h l U V V1 Q1 R1 N Q0) : Q1 * 4294967296 + Q0 = (h * 18446744073709551616 + l) / 10 ∧ N % 2684354560 / 268435456 = (h * 18446744073709551616 + l) % 10 := by
  obtain ⟨u, v, v1, q1, r1, n, q0⟩ := s
  clear v
  have a1 : U = 2684354560 * Q1 + R1 := by omega
  obtain ⟨T, hT⟩ : ∃ T, N % 2684354560 = T := ⟨_, rfl⟩
  have a2 : N = 2684354560 * Q0 + T := by omega
  have a3 : T < 2684354560 := by omega
  rw [hT]
  clear hT q1 r1 q0
  have a4 : U * 16 + l % 16 = h * 18446744073709551616 + l := by omega
  have a5 : (h * 18446744073709551616 + l) * 268435456 = 2684354560 * (Q1 * 4294967296 + Q0) + T := by omega
  exact last_step _ _ _ a5 a3
theorem Steps.mid (s : Steps h l U V V1 Q1 R1 N Q0) (b5 : R1 < 2684354560) (b3 : V1 < 4294967296) : ∃ A1 A2 A3 : Nat, IntKind.u64.wrap ((U : Int) * 4294967296) = (A1 : Int) ∧ IntKind.u64.wrap ((A1 : Int) + (V1 : Int)) = (A2 : Int) ∧
    IntKind.u64.wrap ((Q1 : Int) * 11529215046068469760) = (A3 : Int) ∧ IntKind.u64.wrap ((A2 : Int) - (A3 : Int)) = (N : Int) := by
  have a1 := s.div1
  have a2 := s.n
  clear s
  refine ⟨(U * 4294967296) % 18446744073709551616, ((U * 4294967296) % 18446744073709551616 + V1) % 18446744073709551616, (Q1 * 11529215046068469760) % 18446744073709551616, ?_, ?_, ?_, ?_⟩
  · rw [uw_eq]; omega
  · rw [uw_eq]; omega
  · rw [uw_eq]; omega
  · rw [uw_eq]; omega
theorem Steps.low (s : Steps h l U V V1 Q1 R1 N Q0) (b6 : N < 11529215046068469760) : ∃ P0 R0 : Nat, IntKind.u64.wrap ((N : Int) / 2684354560) = (Q0 : Int) ∧ IntKind.u64.wrap ((Q0 : Int) * 2684354560) = (P0 : Int) ∧ IntKind.u64.wrap ((N : Int) - (P0 : Int)) = (R0 : Int) := by
  have a1 := s.q0
  clear s
  have a2 : N = 2684354560 * Q0 + N % 2684354560 := by omega
  have a3 : (N : Int) / 2684354560 = (Q0 : Int) := by omega
  clear a1
  generalize N % 2684354560 = R at a2
  refine ⟨Q0 * 2684354560, R, ?_, ?_, ?_⟩
  · rw [a3, uw_eq]; omega
  · rw [uw_eq]; omega
  · rw [uw_eq]; omega
theorem Steps.out (s : Steps h l U V V1 Q1 R1 N Q0) (b4 : Q1 < 4294967296) (b6 : N < 11529215046068469760) : ∃ B1 B3 B4 B5 : Nat, IntKind.u64.wrap ((Q1 : Int) * 4294967296) = (B1 : Int) ∧ IntKind.u64.wrap ((B1 : Int) + (Q0 : Int)) = ((Q1 * 4294967296 + Q0 : Nat) : Int) ∧
    IntKind.u64.wrap ((N : Int) * 4294967296) = (B3 : Int) ∧ IntKind.u64.wrap (B3 : Int) = (B3 : Int) ∧ IntKind.u64.wrap ((Q0 : Int) * 11529215046068469760) = (B4 : Int) ∧ IntKind.u64.wrap ((B3 : Int) - (B4 : Int)) = (B5 : Int) ∧
    (B5 : Int) / 1152921504606846976 = ((N % 2684354560 / 268435456 : Nat) : Int) := by
  have a1 := s.q0
  clear s
  have a2 : N = 2684354560 * Q0 + N % 2684354560 := by omega
  have a3 : N % 2684354560 < 2684354560 := by omega
  clear a1
  generalize N % 2684354560 = R at a2 a3
  refine ⟨Q1 * 4294967296, (N * 4294967296) % 18446744073709551616, (Q0 * 11529215046068469760) % 18446744073709551616, R * 4294967296, ?_, ?_, ?_, ?_, ?_, ?_, ?_⟩
  · rw [uw_eq]; omega
  · rw [uw_eq]; omega
  · rw [uw_eq]; omega
  · rw [uw_eq]; omega
  · rw [uw_eq]; omega
  · rw [uw_eq]; omega
  · omega
end
theorem wrap_lo (n m : Nat) (h : n = m) (hm : m < 18446744073709551616) (x : Int) (hx : x = n) : IntKind.u64.wrap x = (m : Int) := by
  rw [uw_eq, hx, h]; omega
set_option maxHeartbeats 1000000 in
set_option maxRecDepth 100000 in
theorem div_high (h l : Nat) (w : World) (hh : h < 10) (h0 : 0 < h) (hl : l < 18446744073709551616) :
    Calls Tryd.prog 57 #[.int .u64 h, .int .u64 l, .int .u64 10] w fun e w' => e = .returned (.tuple #[.int .u64 ((h * 18446744073709551616 + l) / 10 : Nat), .int .u64 ((h * 18446744073709551616 + l) % 10 : Nat)]) ∧ Below w.heap.size w w' := by
  obtain ⟨U, V, V1, Q1, R1, N, Q0, s⟩ : ∃ U V V1 Q1 R1 N Q0, Steps h l U V V1 Q1 R1 N Q0 := ⟨_, _, _, _, _, _, _, rfl, rfl, rfl, rfl, rfl, rfl, rfl⟩
  obtain ⟨b1, b2, b3, b4, b5, b6, b7⟩ := s.bd hh hl
  have z0 : bits .and .u64 11529215046068469760 4294967295 = 0 := by rw [k_mask _ (by omega) (by omega)]; omega
  have f1 : bits .or .u64 ((h : Int) * 1152921504606846976) ((l : Int) / 16) = (U : Int) := by rw [k_or h l hh hl, s.u]
  have f2 : IntKind.u64.wrap ((l : Int) * 1152921504606846976) = (V : Int) := by rw [uw_eq, s.v]; omega
  have f3 : (V : Int) / 4294967296 = (V1 : Int) := by rw [s.v, s.v1]; omega
  have f4 : bits .and .u64 (V : Int) 4294967295 = 0 := by rw [k_mask _ (by omega) (by omega), s.v]; omega
  have a1 : U = 2684354560 * Q1 + R1 := s.div1
  have f5 : IntKind.u64.wrap ((U : Int) / 2684354560) = (Q1 : Int) := by rw [uw_eq, s.q1]; omega
  obtain ⟨P1, g1⟩ : ∃ P1 : Nat, P1 = Q1 * 2684354560 := ⟨_, rfl⟩
  have f6 : IntKind.u64.wrap ((Q1 : Int) * 2684354560) = (P1 : Int) := by rw [uw_eq, g1]; omega
  have f7 : IntKind.u64.wrap ((U : Int) - (P1 : Int)) = (R1 : Int) := by rw [show (U : Int) - (P1 : Int) = (R1 : Int) by omega, uw_eq]; exact Int.emod_eq_of_lt (by omega) (by omega)
  have c1 : decide ((4294967296 : Int) ≤ (Q1 : Int)) = false := decide_eq_false (by omega)
  obtain ⟨A1, A2, A3, m1, m2, m3, m4⟩ := s.mid b5 b3
  obtain ⟨P0, R0, n1, n2, n3⟩ := s.low b6
  obtain ⟨B1, B3, B4, B5, o1, o2, o3, o3b, o4, o5, o6⟩ := s.out b4 b6
  have c2 : decide ((4294967296 : Int) ≤ (Q0 : Int)) = false := decide_eq_false (by omega)
  obtain ⟨d1, d2⟩ := s.ends
  have HD1 := Lib.hid d1
  have HD2 := Lib.hid d2
  have H0 := Lib.hid h0
  have HS := Lib.hid s
  have e0 : ((h : Int) == 0) = false := by
    have : ¬ (h : Int) = 0 := by omega
    simpa using this
  clear h0 s hl b1 b2 b3 b4 b5 b6 b7 g1 a1 d1 d2
  go_enter Tryd.func57, Tryd.ntmps57
  go_wp2_with (go_at_call 66; refine (lz_ten _).mono ?_; rintro e w' ⟨rfl, rfl⟩)
  go_loop [15, 16] (fun q r => q = .int .u64 Q1 ∧ r = .int .u64 R1) (fun _ _ => 0)
  case atStart => exact ⟨rfl, rfl⟩
  case round =>
    obtain ⟨rfl, rfl⟩ := hrel
    go_wp2
    go_loop [16, 18] (fun r q => q = .int .u64 Q0 ∧ r = .int .u64 R0) (fun _ _ => 0)
    case atStart => exact ⟨rfl, rfl⟩
    case round =>
      obtain ⟨rfl, rfl⟩ := hrel
      go_wp2
      go_ret2
      exact ⟨ret2_u64 (congrArg (fun n : Nat => (n : Int)) HD1.out) (congrArg (fun n : Nat => (n : Int)) HD2.out), Below.refl _ _⟩
theorem div_any (h l : Nat) (w : World) (hh : h < 10) (hl : l < 18446744073709551616) :
    Calls Tryd.prog 57 #[.int .u64 h, .int .u64 l, .int .u64 10] w fun e w' => e = .returned (.tuple #[.int .u64 ((h * 18446744073709551616 + l) / 10 : Nat), .int .u64 ((h * 18446744073709551616 + l) % 10 : Nat)]) ∧ Below w.heap.size w w' := by
  by_cases h0 : h = 0
  · subst h0
    refine (div_low l w hl).mono fun e w' ⟨he, hw⟩ => ⟨?_, hw⟩
    rw [he, Nat.zero_mul, Nat.zero_add]
  · exact div_high h l w hh (by omega) hl
theorem div_int (H L q r : Nat) (w : World) (hl : L < 18446744073709551616) (hq : (H % 10 * 18446744073709551616 + L) / 10 = q) (hr : (H % 10 * 18446744073709551616 + L) % 10 = r) :
    Calls Tryd.prog 57 #[.int .u64 ((H : Int) % 10), .int .u64 L, .int .u64 10] w fun e w' => e = .returned (.tuple #[.int .u64 q, .int .u64 r]) ∧ Below w.heap.size w w' := by
  have := div_any (H % 10) L w (by omega) hl
  rw [hq, hr] at this
  exact this
theorem ten_any (a : Nat) (w : World) (ha : a < M) :
    Calls Tryd.prog 49 #[A a] w fun e w' => e = .returned (.tuple #[.agg #[.int .u64 (hi (a / 10)), .int .u64 (lo (a / 10))], .int .u8 (a % 10 : Nat)]) ∧ Below w.heap.size w w' := by
  obtain ⟨H, hH⟩ : ∃ H, a / 18446744073709551616 = H := ⟨_, rfl⟩
  obtain ⟨L, hL⟩ : ∃ L, a % 18446744073709551616 = L := ⟨_, rfl⟩
  have e1 : hi a = (H : Int) := by rw [← hH]; rfl
  have e2 : lo a = (L : Int) := by rw [← hL]; rfl
  have hL2 : L < 18446744073709551616 := by omega
  have hH2 : H < 18446744073709551616 := by unfold M at ha; omega
  obtain ⟨q, hq⟩ : ∃ q, (H % 10 * 18446744073709551616 + L) / 10 = q := ⟨_, rfl⟩
  obtain ⟨r, hr⟩ : ∃ r, (H % 10 * 18446744073709551616 + L) % 10 = r := ⟨_, rfl⟩
  have e3 : hi (a / 10) = ((H / 10 : Nat) : Int) := by unfold hi; omega
  have e4 : lo (a / 10) = (q : Int) := by unfold lo; omega
  have e5 : a % 10 = r := by omega
  have hr2 : (r : Int) ≤ 9 := by omega
  have hw : IntKind.u64.wrap ((H : Int) / 10) = (H : Int) / 10 := by rw [uw_eq]; omega
  have hd := fun w => div_int H L q r w hL2 hq hr
  rw [A, e1, e2, e3, e4, e5]
  have HC := Lib.hid hd
  clear hd e1 e2 e3 e4 e5 hH hL ha hL2 hH2 hq hr
  go_enter Tryd.func49, Tryd.ntmps49
  go_wp2
  go_quiet (fail)
  go_wp2_with (go_at_call 57; refine (HC.out _).mono ?_; rintro e w1 ⟨rfl, hb1⟩; obtain ⟨hc, hf⟩ := bcell hb1)
  exact bodyPost_ret (v := .tuple #[.agg #[.int .u64 ((H / 10 : Nat) : Int), .int .u64 q], .int .u8 r]) (by simp [results, Tryd.results49, go_sem, hc]) rfl ⟨rfl, by repeat (with_reducible first | exact Below.refl _ _ | assumption | refine below_al ?_ _ | refine below_set ?_ (by omega) | refine below_drewN ?_ | refine below_dr ?_ | refine below_on ?_ (by assumption))⟩
end Go.Proofs.YtjjlfkbgieloeaaDoor
