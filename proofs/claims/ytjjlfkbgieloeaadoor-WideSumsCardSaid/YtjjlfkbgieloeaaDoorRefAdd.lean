/- The contract of the reference's Add: the sum, bit by bit. Conditions: none. -/
import Derived.Test.YtjjlfkbgieloeaaDoorAdds
namespace Go.Proofs.YtjjlfkbgieloeaaDoor
open Go.RowKit Go.BigFrame
structure AddInv (w : World) (a b : Nat) (v7 v8 : Value) (k : Nat) (wr : World) : Prop where
  v7 : v7 = .int .i64 (car a b (128 - k) : Nat)
  v8 : v8 = .int .i64 ((128 - k : Nat) : Int)
  le : k ≤ 128
  has : Has w (addList w a b (acc a b (128 - k))) wr
theorem add_end (a b : Nat) (ha : a < M) (hb : b < M) : (car a b 128 = 0 ∧ ok2 a b = true ∧ acc a b 128 = sm a b) ∨ (car a b 128 = 1 ∧ ok2 a b = false ∧ sm a b = 0) := by
  have hM : (2 : Nat) ^ 128 = M := by decide
  unfold acc car ok2 sm
  rw [hM, Nat.mod_eq_of_lt ha, Nat.mod_eq_of_lt hb]
  unfold M at *
  by_cases h : a + b < 340282366920938463463374607431768211456
  · left
    rw [if_pos h, decide_eq_true h]
    exact ⟨by omega, rfl, by omega⟩
  · right
    rw [if_neg h, decide_eq_false h]
    exact ⟨by omega, rfl, rfl⟩
theorem car_zero (a b : Nat) : car a b 0 = 0 := by simp [car, Nat.mod_one]
theorem two_of (a n : Nat) : a / 2 ^ n % 2 = 0 ∧ bitI a n = 0 ∨ a / 2 ^ n % 2 = 1 ∧ bitI a n = 1 := by unfold bitI; omega
theorem car_is (a b n : Nat) : car a b n = 0 ∧ ((car a b n : Nat) : Int) = 0 ∨ car a b n = 1 ∧ ((car a b n : Nat) : Int) = 1 := by
  have := car_two a b n
  omega
theorem add_new (w : World) (a b : Nat) : Has w (addList w a b (acc a b 0)) ((((w.alloc (.cells #[.int .u64 (hi a), .int .u64 (lo a)] 24)).alloc (.cells #[.int .u64 (hi b), .int .u64 (lo b)] 24)).alloc (.cells #[.int .u64 0, .int .u64 0] 24)).alloc (.cells #[.int .u64 0, .int .u64 0] 24)) := by
  have h0 : acc a b 0 = 0 := by unfold acc; simp [Nat.mod_one]
  rw [h0]
  refine ⟨?_, below_al (below_al (below_al (below_al (Below.refl _ _) _) _) _) _⟩
  have e := two_new w a b
  have e2 := Blk.new ((w.alloc (.cells #[.int .u64 (hi a), .int .u64 (lo a)] 24)).alloc (.cells #[.int .u64 (hi b), .int .u64 (lo b)] 24)) 24 #[.int .u64 0, .int .u64 0]
  have e3 := Blk.new (((w.alloc (.cells #[.int .u64 (hi a), .int .u64 (lo a)] 24)).alloc (.cells #[.int .u64 (hi b), .int .u64 (lo b)] 24)).alloc (.cells #[.int .u64 0, .int .u64 0] 24)) 24 #[.int .u64 0, .int .u64 0]
  simp only [World.alloc, Array.size_push] at e2 e3
  intro x hx
  simp only [addList, List.mem_cons, List.mem_nil_iff, or_false] at hx
  rcases hx with rfl | rfl | rfl | rfl
  · exact (e.1.alloc _).alloc _
  · exact (e.2.alloc _).alloc _
  · exact e2.alloc _
  · exact e3
set_option maxHeartbeats 4000000 in
set_option maxRecDepth 100000 in
theorem ref_add (a b : Nat) (w : World) (ha : a < M) (hb : b < M) :
    Calls Tryd.prog 25 #[A a, A b] w fun e w' => e = .returned (.tuple #[.agg #[.int .u64 (hi (sm a b)), .int .u64 (lo (sm a b))], .bool (ok2 a b)]) ∧ Below w.heap.size w w' := by
  have HA := Lib.hid ha
  have HB := Lib.hid hb
  clear ha hb
  go_enter Tryd.func25, Tryd.ntmps25
  go_wp2
  go_loopg [7, 8] 128 (fun k v7 v8 wr => AddInv w a b v7 v8 k wr)
  case atStart => exact ⟨by show _ = Value.int .i64 ((car a b 0 : Nat) : Int); rw [car_zero]; rfl, rfl, by omega, add_new w a b⟩
  case round =>
    obtain ⟨rfl, rfl, hle, hhas⟩ := hrel
    cases gk with
    | zero =>
      have b2 := hhas.get 2 rfl
      have b3 := hhas.get 3 rfl
      have c2 := b2.cell 0
      have c3 := b2.cell 1
      have f2 := b2.frozen 0
      have f3 := b2.frozen 1
      have d2 := b3.cell 0
      have d3 := b3.cell 1
      have l2 := b2.lt
      have l3 := b3.lt
      have HH := Lib.hid hhas
      clear b2 b3 hhas
      simp only [Nat.sub_zero] at *
      rcases add_end a b HA.out HB.out with ⟨q1, q2, q3⟩ | ⟨q1, q2, q3⟩
      · rw [q1]
        rw [q3] at d2 d3
        go_wp2
        exact bodyPost_ret (v := .tuple #[.agg #[.int .u64 (hi (sm a b)), .int .u64 (lo (sm a b))], .bool true]) (by simp [results, Tryd.results25, go_sem, c2, c3]) rfl ⟨by rw [q2], below_set (below_set HH.out.bel (by omega)) (by omega)⟩
      · rw [q1]
        go_wp2
        exact bodyPost_ret (v := .tuple #[.agg #[.int .u64 (hi 0), .int .u64 (lo 0)], .bool false]) (by simp [results, Tryd.results25, go_sem, c2, c3, hi_zero, lo_zero]) rfl ⟨by rw [q2, q3], below_set (below_set HH.out.bel (by omega)) (by omega)⟩
    | succ k =>
      obtain ⟨n, hn⟩ : ∃ n : Nat, 128 - (k + 1) = n := ⟨_, rfl⟩
      rw [hn] at hhas ⊢
      have hn2 : n < 128 := by omega
      have hn3 : 128 - k = n + 1 := by omega
      have HN := Lib.hid (And.intro hn (And.intro hn3 hle))
      clear hn hn3 hle
      have hst := add_step a b n
      have hlt := acc_lt a b n
      rcases two_of a n with ⟨ea, hA⟩ | ⟨ea, hA⟩ <;> rcases two_of b n with ⟨eb, hB⟩ | ⟨eb, hB⟩ <;> rcases car_is a b n with ⟨ec, hC⟩ | ⟨ec, hC⟩
      all_goals
        rw [ea, eb, ec] at hst
        obtain ⟨hs1, hs2⟩ := hst
        simp only [Nat.reduceAdd, Nat.reduceMod, Nat.reduceDiv, Nat.mul_zero, Nat.mul_one, Nat.add_zero, Nat.zero_add] at hs1 hs2
        have HS := Lib.hid (And.intro hs1 hs2)
        rw [hC]
        clear ea eb ec hs1 hs2 hC
        have HL := Lib.hid hlt
        clear hlt
        have b2 := hhas.get 2 rfl
        have b3 := hhas.get 3 rfl
        have l2 := b2.lt
        have l3 := b3.lt
        clear b2 b3
        go_wp2_with fail
        refine region_class (C := Has w (addList w a b (acc a b n))) (by kernel_rfl) (by kernel_rfl) ⟨fun x hx => (hhas.blk x hx).drew, below_dr hhas.bel⟩ ?_
        clear hhas
        go_big_quiet_want; refine quiet_load _ 0 rfl rfl rfl ?_; go_big_quiet_on; refine wq_cast (by simp only [Act.put, List.setIfInBounds_toArray, List.set_cons_zero, List.set_cons_succ]; rfl) ?_
        go_big_quiet_want; go_big_quiet_op; first | go_big_quiet_on | (refine ⟨_, fun _ _ => rfl, ?_⟩; go_big_quiet_on)
        go_big_quiet_want; refine quiet_call2 _ rfl Tryd.func41 (by kernel_rfl) (by kernel_rfl) (by simp only [List.map_toArray, List.map]; rfl) (fun w' hw => (bit_is a n _ w' hn2 hA).mono fun e w'' h => ⟨h.1, hw.next h.2⟩) ?_; go_big_quiet_on; refine wq_cast (by simp only [Act.put, List.setIfInBounds_toArray, List.set_cons_zero, List.set_cons_succ]; rfl) ?_
        go_big_quiet_want; refine quiet_load _ 1 rfl rfl rfl ?_; go_big_quiet_on; refine wq_cast (by simp only [Act.put, List.setIfInBounds_toArray, List.set_cons_zero, List.set_cons_succ]; rfl) ?_
        go_big_quiet_want; go_big_quiet_op; first | go_big_quiet_on | (refine ⟨_, fun _ _ => rfl, ?_⟩; go_big_quiet_on)
        go_big_quiet_want; refine quiet_call2 _ rfl Tryd.func41 (by kernel_rfl) (by kernel_rfl) (by simp only [List.map_toArray, List.map]; rfl) (fun w' hw => (bit_is b n _ w' hn2 hB).mono fun e w'' h => ⟨h.1, hw.next h.2⟩) ?_; go_big_quiet_on; refine wq_cast (by simp only [Act.put, List.setIfInBounds_toArray, List.set_cons_zero, List.set_cons_succ]; rfl) ?_
        go_big_quiet_want; go_big_quiet_op; first | go_big_quiet_on | (refine ⟨_, fun _ _ => rfl, ?_⟩; go_big_quiet_on)
        go_big_quiet_want; go_big_quiet_op; first | go_big_quiet_on | (refine ⟨_, fun _ _ => rfl, ?_⟩; go_big_quiet_on)
        go_big_quiet_want; go_big_quiet_op; first | go_big_quiet_on | (refine ⟨_, fun _ _ => rfl, ?_⟩; go_big_quiet_on)
        go_big_quiet_want; go_big_quiet_op; first | go_big_quiet_on | (refine ⟨_, fun _ _ => rfl, ?_⟩; go_big_quiet_on)
        refine wpQuiet_nil ?_
        intro w6 hw6
        have b3 := hw6.get 3 rfl
        have d2 := b3.cell 0
        have d3 := b3.cell 1
        have m3 := b3.lt
        have HH := Lib.hid hw6
        clear b3 hw6
        first
        | (go_wp2_with fail
           go_roundg k
           case measure => omega
           case rel => exact ⟨by rw [HN.out.2.1, HS.out.1]; rfl, by rw [HN.out.2.1]; simp, by have := HN.out.2.2; omega, by rw [HN.out.2.1, HS.out.2]; exact HH.out⟩
           done)
        | (go_wp2_with (go_at_call 43; (with_reducible refine (set_is (acc a b n) n _ _ HL.out hn2 HS.out.2.symm).mono ?_); rintro e w7 ⟨rfl, hb7⟩; have HH2 := Lib.hid (HH.out.next hb7); have b3 := HH2.out.get 3 rfl; have g2 := b3.frozen 0; have g3 := b3.frozen 1; have g0 := b3.cell 0; have g1 := b3.cell 1; have m3 := b3.lt; clear b3)
           go_roundg k
           case measure => omega
           case rel => exact ⟨by rw [HN.out.2.1, HS.out.1]; rfl, by rw [HN.out.2.1]; simp, by have := HN.out.2.2; omega, by rw [HN.out.2.1]; exact HH2.out.store⟩
           done)
end Go.Proofs.YtjjlfkbgieloeaaDoor
