/- The contract of the reference's Sub: what is left, bit by bit. Conditions: none. -/
import Derived.Test.YtjjlfkbgieloeaaDoorRefAdd
import Derived.Test.YtjjlfkbgieloeaaDoorOrder
namespace Go.Proofs.YtjjlfkbgieloeaaDoor
open Go.RowKit Go.BigFrame
def subList (w : World) (g a b o : Nat) : List (Nat × Int × Int) := [(w.heap.size, hi a, lo a), (w.heap.size + 1, hi b, lo b), (w.heap.size + 1 + 1, 0, 0), (g, hi o, lo o)]
theorem Has.store2 {w w1 : World} {g a b o x : Nat} (hg : w.heap.size + 1 + 1 < g) (h : Has w (subList w g a b o) w1) : Has w (subList w g a b x) ((w1.setCell ⟨g, 0, none⟩ (.int .u64 (hi x))).setCell ⟨g, 1, none⟩ (.int .u64 (lo x))) := by
  have h0 := h.get 0 rfl
  have h1 := h.get 1 rfl
  have h2 := h.get 2 rfl
  have h3 := h.get 3 rfl
  refine ⟨?_, below_set (below_set h.bel (by omega)) (by omega)⟩
  intro y hy
  simp only [subList, List.mem_cons, List.mem_nil_iff, or_false] at hy
  rcases hy with rfl | rfl | rfl | rfl
  · exact (h0.far (p := ⟨g, 0, none⟩) (by simp; omega) _).far (p := ⟨g, 1, none⟩) (by simp; omega) _
  · exact (h1.far (p := ⟨g, 0, none⟩) (by simp; omega) _).far (p := ⟨g, 1, none⟩) (by simp; omega) _
  · exact (h2.far (p := ⟨g, 0, none⟩) (by simp; omega) _).far (p := ⟨g, 1, none⟩) (by simp; omega) _
  · exact (h3.set_ 0 _).set_ 1 _
structure SubInv (w : World) (g a b : Nat) (v7 v8 : Value) (k : Nat) (wr : World) : Prop where
  v7 : v7 = .int .i64 (bor a b (128 - k) : Nat)
  v8 : v8 = .int .i64 ((128 - k : Nat) : Int)
  le : k ≤ 128
  has : Has w (subList w g a b (dif a b (128 - k))) wr
theorem sub_end (a b : Nat) (ha : a < M) (hb : b < M) (h : ¬ a < b) : dif a b 128 = a - b := by
  have hM : (2 : Nat) ^ 128 = M := by decide
  unfold dif
  rw [hM, Nat.mod_eq_of_lt ha, Nat.mod_eq_of_lt hb]
  unfold M at *
  omega
theorem bor_zero (a b : Nat) : bor a b 0 = 0 := by simp [bor, Nat.mod_one]
theorem bor_is (a b n : Nat) : bor a b n = 0 ∧ ((bor a b n : Nat) : Int) = 0 ∨ bor a b n = 1 ∧ ((bor a b n : Nat) : Int) = 1 := by
  have := bor_two a b n
  omega
theorem sub_new (w w1 : World) (a b : Nat) (hb : Below (((w.alloc (.cells #[.int .u64 (hi a), .int .u64 (lo a)] 24)).alloc (.cells #[.int .u64 (hi b), .int .u64 (lo b)] 24)).alloc (.cells #[.int .u64 0, .int .u64 0] 24)).heap.size (((w.alloc (.cells #[.int .u64 (hi a), .int .u64 (lo a)] 24)).alloc (.cells #[.int .u64 (hi b), .int .u64 (lo b)] 24)).alloc (.cells #[.int .u64 0, .int .u64 0] 24)) w1) :
    w.heap.size + 1 + 1 < w1.heap.size ∧ Has w (subList w w1.heap.size a b (dif a b 0)) (w1.alloc (.cells #[.int .u64 0, .int .u64 0] 24)) := by
  have h0 : dif a b 0 = 0 := by unfold dif; simp [Nat.mod_one]
  rw [h0]
  have e := two_new w a b
  have e2 := Blk.new ((w.alloc (.cells #[.int .u64 (hi a), .int .u64 (lo a)] 24)).alloc (.cells #[.int .u64 (hi b), .int .u64 (lo b)] 24)) 24 #[.int .u64 0, .int .u64 0]
  have e3 := Blk.new w1 24 #[.int .u64 0, .int .u64 0]
  have k0 := Blk.carry (e.1.alloc _) hb
  have k1 := Blk.carry (e.2.alloc _) hb
  have k2 := Blk.carry e2 hb
  simp only [World.alloc, Array.size_push] at k2
  refine ⟨k2.lt, ?_, ?_⟩
  · intro x hx
    simp only [subList, List.mem_cons, List.mem_nil_iff, or_false] at hx
    rcases hx with rfl | rfl | rfl | rfl
    · exact k0.alloc _
    · exact k1.alloc _
    · exact k2.alloc _
    · exact e3
  · exact below_al (below_on (below_al (below_al (below_al (Below.refl _ _) _) _) _) hb) _
set_option maxHeartbeats 4000000 in
set_option maxRecDepth 100000 in
theorem ref_sub_yes (a b : Nat) (w : World) (ha : a < M) (hb : b < M) (hab : ¬ a < b) :
    Calls Tryd.prog 27 #[A a, A b] w fun e w' => e = .returned (.tuple #[.agg #[.int .u64 (hi (a - b)), .int .u64 (lo (a - b))], .bool true]) ∧ Below w.heap.size w w' := by
  have HA := Lib.hid ha
  have HB := Lib.hid hb
  have HAB := Lib.hid hab
  clear ha hb hab
  go_enter Tryd.func27, Tryd.ntmps27
  go_wp2_with fail
  refine (ref_less_no a b _ HA.out HB.out HAB.out).mono ?_
  rintro e w1 ⟨rfl, hb1⟩
  obtain ⟨hg, hnew⟩ := sub_new w w1 a b hb1
  have HN0 := Lib.hid hnew
  clear hnew hb1
  go_wp2_with fail
  generalize w1.heap.size = g at *
  go_loopg [7, 8] 128 (fun k v7 v8 wr => SubInv w g a b v7 v8 k wr)
  case atStart => exact ⟨by show _ = Value.int .i64 ((bor a b 0 : Nat) : Int); rw [bor_zero]; rfl, rfl, by omega, HN0.out⟩
  case round =>
    obtain ⟨rfl, rfl, hle, hhas⟩ := hrel
    cases gk with
    | zero =>
      have b2 := hhas.get 2 rfl
      have b3 := hhas.get 3 rfl
      have c2 := b2.cell 0
      have c3 := b2.cell 1
      have f2 := b2.frozen 0
      have f3 := b2.frozen 1
      have d2 := b3.cell 0
      have d3 := b3.cell 1
      have l2 := b2.lt
      have l3 := b3.lt
      have HH := Lib.hid hhas
      clear b2 b3 hhas
      simp only [Nat.sub_zero] at *
      have q3 := sub_end a b HA.out HB.out HAB.out
      rw [q3] at d2 d3
      go_wp2
      exact bodyPost_ret (v := .tuple #[.agg #[.int .u64 (hi (a - b)), .int .u64 (lo (a - b))], .bool true]) (by simp [results, Tryd.results27, go_sem, c2, c3]) rfl ⟨rfl, below_set (below_set HH.out.bel (by omega)) (by omega)⟩
    | succ k =>
      obtain ⟨n, hn⟩ : ∃ n : Nat, 128 - (k + 1) = n := ⟨_, rfl⟩
      rw [hn] at hhas ⊢
      have hn2 : n < 128 := by omega
      have hn3 : 128 - k = n + 1 := by omega
      have HN := Lib.hid (And.intro hn (And.intro hn3 hle))
      clear hn hn3 hle
      have hst := sub_step a b n
      have hlt := dif_lt a b n
      rcases two_of a n with ⟨ea, hA⟩ | ⟨ea, hA⟩ <;> rcases two_of b n with ⟨eb, hB⟩ | ⟨eb, hB⟩ <;> rcases bor_is a b n with ⟨ec, hC⟩ | ⟨ec, hC⟩
      all_goals
        rw [ea, eb, ec] at hst
        obtain ⟨hs1, hs2⟩ := hst
        simp only [Nat.reduceAdd, Nat.reduceSub, Nat.reduceLT, Nat.reduceMod, Nat.mul_zero, Nat.mul_one, Nat.add_zero, Nat.zero_add, Nat.sub_zero, if_true, if_false, Nat.lt_irrefl, Nat.not_lt_zero, Nat.zero_lt_one] at hs1 hs2
        have HS := Lib.hid (And.intro hs1 hs2)
        rw [hC]
        clear ea eb ec hs1 hs2 hC
        have HL := Lib.hid hlt
        clear hlt
        have b2 := hhas.get 2 rfl
        have b3 := hhas.get 3 rfl
        have l2 := b2.lt
        have l3 := b3.lt
        clear b2 b3
        go_wp2_with fail
        refine region_class (C := Has w (subList w g a b (dif a b n))) (by kernel_rfl) (by kernel_rfl) ⟨fun x hx => (hhas.blk x hx).drew, below_dr hhas.bel⟩ ?_
        clear hhas
        go_big_quiet_want; refine quiet_load _ 0 rfl rfl rfl ?_; go_big_quiet_on; refine wq_cast (by simp only [Act.put, List.setIfInBounds_toArray, List.set_cons_zero, List.set_cons_succ]; rfl) ?_
        go_big_quiet_want; go_big_quiet_op; first | go_big_quiet_on | (refine ⟨_, fun _ _ => rfl, ?_⟩; go_big_quiet_on)
        go_big_quiet_want; refine quiet_call2 _ rfl Tryd.func41 (by kernel_rfl) (by kernel_rfl) (by simp only [List.map_toArray, List.map]; rfl) (fun w' hw => (bit_is a n _ w' hn2 hA).mono fun e w'' h => ⟨h.1, hw.next h.2⟩) ?_; go_big_quiet_on; refine wq_cast (by simp only [Act.put, List.setIfInBounds_toArray, List.set_cons_zero, List.set_cons_succ]; rfl) ?_
        go_big_quiet_want; refine quiet_load _ 1 rfl rfl rfl ?_; go_big_quiet_on; refine wq_cast (by simp only [Act.put, List.setIfInBounds_toArray, List.set_cons_zero, List.set_cons_succ]; rfl) ?_
        go_big_quiet_want; go_big_quiet_op; first | go_big_quiet_on | (refine ⟨_, fun _ _ => rfl, ?_⟩; go_big_quiet_on)
        go_big_quiet_want; refine quiet_call2 _ rfl Tryd.func41 (by kernel_rfl) (by kernel_rfl) (by simp only [List.map_toArray, List.map]; rfl) (fun w' hw => (bit_is b n _ w' hn2 hB).mono fun e w'' h => ⟨h.1, hw.next h.2⟩) ?_; go_big_quiet_on; refine wq_cast (by simp only [Act.put, List.setIfInBounds_toArray, List.set_cons_zero, List.set_cons_succ]; rfl) ?_
        go_big_quiet_want; go_big_quiet_op; first | go_big_quiet_on | (refine ⟨_, fun _ _ => rfl, ?_⟩; go_big_quiet_on)
        go_big_quiet_want; go_big_quiet_op; first | go_big_quiet_on | (refine ⟨_, fun _ _ => rfl, ?_⟩; go_big_quiet_on)
        go_big_quiet_want; go_big_quiet_op; first | go_big_quiet_on | (refine ⟨_, fun _ _ => rfl, ?_⟩; go_big_quiet_on)
        go_big_quiet_want; go_big_quiet_op; first | go_big_quiet_on | (refine ⟨_, fun _ _ => rfl, ?_⟩; go_big_quiet_on)
        refine wpQuiet_nil ?_
        intro w6 hw6
        have b3 := hw6.get 3 rfl
        have d2 := b3.cell 0
        have d3 := b3.cell 1
        have m3 := b3.lt
        have HH := Lib.hid hw6
        clear b3 hw6
        first
        | (go_wp2_with fail
           go_roundg k
           case measure => omega
           case rel => exact ⟨by rw [HN.out.2.1, HS.out.1]; rfl, by rw [HN.out.2.1]; simp, by have := HN.out.2.2; omega, by rw [HN.out.2.1, HS.out.2]; exact HH.out⟩
           done)
        | (go_wp2_with (go_at_call 43; (with_reducible refine (set_is (dif a b n) n _ _ HL.out hn2 HS.out.2.symm).mono ?_); rintro e w7 ⟨rfl, hb7⟩; have HH2 := Lib.hid (HH.out.next hb7); have b3 := HH2.out.get 3 rfl; have g2 := b3.frozen 0; have g3 := b3.frozen 1; have g0 := b3.cell 0; have g1 := b3.cell 1; have m3 := b3.lt; clear b3)
           go_roundg k
           case measure => omega
           case rel => exact ⟨by rw [HN.out.2.1, HS.out.1]; rfl, by rw [HN.out.2.1]; simp, by have := HN.out.2.2; omega, by rw [HN.out.2.1]; exact HH2.out.store2 hg⟩
           done)
theorem ref_sub_no (a b : Nat) (w : World) (ha : a < M) (hb : b < M) (hab : a < b) :
    Calls Tryd.prog 27 #[A a, A b] w fun e w' => e = .returned (.tuple #[.agg #[.int .u64 0, .int .u64 0], .bool false]) ∧ Below w.heap.size w w' := by
  have HAB := Lib.hid (And.intro ha (And.intro hb hab))
  clear ha hb hab
  go_enter Tryd.func27, Tryd.ntmps27
  go_wp2_with (go_at_call 15; refine (ref_less_yes a b _ HAB.out.1 HAB.out.2.1 HAB.out.2.2).mono ?_; rintro e w1 ⟨rfl, hb1⟩; obtain ⟨hc, hf⟩ := bcell hb1)
  exact bodyPost_ret (v := .tuple #[.agg #[.int .u64 0, .int .u64 0], .bool false]) (by simp [results, Tryd.results27, go_sem, hc]) rfl ⟨rfl, by repeat (with_reducible first | exact Below.refl _ _ | assumption | refine below_al ?_ _ | refine below_set ?_ (by omega) | refine below_drewN ?_ | refine below_dr ?_ | refine below_on ?_ (by assumption))⟩
theorem ref_sub (a b : Nat) (w : World) (ha : a < M) (hb : b < M) :
    Calls Tryd.prog 27 #[A a, A b] w fun e w' => e = .returned (.tuple #[.agg #[.int .u64 (hi (a - b)), .int .u64 (lo (a - b))], .bool (decide (¬ a < b))]) ∧ Below w.heap.size w w' := by
  by_cases h : a < b
  · rw [show a - b = 0 by omega, hi_zero, lo_zero, decide_eq_false (by omega)]
    exact ref_sub_no a b w ha hb h
  · rw [decide_eq_true h]
    exact ref_sub_yes a b w ha hb h
theorem sub_any (a b : Nat) (w : World) (ha : a < M) :
    Calls Tryd.prog 26 #[A a, A b] w fun e w' => e = .returned (.tuple #[.agg #[.int .u64 (hi (a - b)), .int .u64 (lo (a - b))], .bool (decide (¬ a < b))]) ∧ Below w.heap.size w w' := by
  by_cases h : a < b
  · rw [show a - b = 0 by omega, hi_zero, lo_zero, decide_eq_false (by omega)]
    exact sub_no a b w h
  · rw [decide_eq_true h]
    exact sub_yes a b w ha h
end Go.Proofs.YtjjlfkbgieloeaaDoor
