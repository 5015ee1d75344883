/- The walk of the law WideShows. Conditions: those of its row. -/
import Derived.Test.YtjjlfkbgieloeaaDoorParse2
import Derived.Test.YtjjlfkbgieloeaaDoorRefShow
import Derived.Test.YtjjlfkbgieloeaaDoorClass2
import Derived.Test.YtjjlfkbgieloeaaDoorAlive
namespace Go.Proofs.YtjjlfkbgieloeaaDoor
open Go.RowKit Go.BigFrame Go.PlainAid
theorem self2 (x y : Int) : (x == x && y == y) = true := by simp
theorem of_lo (a : Nat) (w : World) : Calls Tryd.prog 38 #[.int .u64 (lo a)] w fun e w' => e = .returned (.agg #[.int .u64 0, .int .u64 (lo a)]) ∧ Below w.heap.size w w' := by
  have h := of_any (a % 18446744073709551616) w (Nat.mod_lt _ (by omega))
  have e1 : hi (a % 18446744073709551616) = 0 := by unfold hi; omega
  have e2 : lo (a % 18446744073709551616) = lo a := by unfold lo; omega
  rw [A, e1, e2] at h
  exact h
theorem quiet_load22 {o : Oper} {a : Act} {w0 : World} {l : List (Nat × Int × Int)} {K : Act → Prop} (s : Operand) (i : Nat) {g : Nat} {x y : Int} (ho : o.op = .load 22 s) (hs : a.eval s = .pointer (some ⟨g, 1, none⟩)) (hi : l[i]? = some (g, x, y))
    (hk : K (a.put o.dst (.int .u64 y))) : o.quiet Tryd.prog a (Has w0 l) K := by
  refine ⟨_, fun w hw => ?_, hk⟩
  have hb := hw.get i hi
  have c1 := cell_of1 hb
  unfold Oper.quietAt execOp
  rw [ho]
  simp only [hs]
  go_simp
theorem valL_decs (a : Nat) : valL (decs a) = a := by
  induction a using Nat.strongRecOn with
  | ind a ih =>
    by_cases h : a / 10 = 0
    · rw [decs_low a h]
      show 0 * 10 + ((UInt8.ofNat (48 + a % 10)).toNat - 48) = a
      rw [UInt8.toNat_ofNat']
      omega
    · rw [decs_high a h, valL_snoc, ih (a / 10) (by omega), UInt8.toNat_ofNat']
      omega
theorem decs_dig (a : Nat) : (decs a).all dig = true := by
  rw [digr_decs, List.all_eq_true]
  intro x hx
  obtain ⟨d, hd, rfl⟩ := List.mem_map.1 hx
  have := digr_lt a d (by simpa using hd)
  unfold dig
  rw [UInt8.toNat_ofNat']
  simp
  omega
theorem decs_head (a : Nat) : ∃ (b : UInt8) (t : List UInt8), decs a = b :: t ∧ (0 < a → b.toNat ≠ 48) ∧ (a < 10 → t = []) := by
  induction a using Nat.strongRecOn with
  | ind a ih =>
    by_cases h : a / 10 = 0
    · refine ⟨UInt8.ofNat (48 + a % 10), [], decs_low a h, ?_, fun _ => rfl⟩
      intro h0
      rw [UInt8.toNat_ofNat']
      omega
    · obtain ⟨b, t, e, h1, h2⟩ := ih (a / 10) (by omega)
      refine ⟨b, t ++ [UInt8.ofNat (48 + a % 10)], by rw [decs_high a h, e]; rfl, fun _ => h1 (by omega), fun hc => by omega⟩
theorem decs_size (a : Nat) (ha : a < M) : (⟨(decs a).toArray⟩ : ByteArray).size ≤ 39 := by
  have h := digr_len a 38 (by unfold M at ha; omega)
  show (decs a).toArray.size ≤ 39
  rw [digr_decs]
  simpa using h
theorem decs_lead (a : Nat) : 0 < (⟨(decs a).toArray⟩ : ByteArray).size ∧ ((⟨(decs a).toArray⟩ : ByteArray).size = 1 ∨ ¬ bt ⟨(decs a).toArray⟩ 0 = 48) := by
  obtain ⟨b, t, e, h1, h2⟩ := decs_head a
  rw [e]
  refine ⟨by simp [ByteArray.size], ?_⟩
  by_cases h : a < 10
  · left
    rw [h2 h]
    rfl
  · right
    rw [bt_data]
    have := h1 (by omega)
    simp [Array.getD]
    omega
theorem parse_decs (a : Nat) (w : World) (ha : a < M) : Calls Tryd.prog 36 #[.string ⟨(decs a).toArray⟩] w fun e w' => e = .returned (.tuple #[.agg #[.int .u64 (hi a), .int .u64 (lo a)], .int .i64 0]) ∧ Below w.heap.size w w' := by
  obtain ⟨h0, h1⟩ := decs_lead a
  have hs := decs_size a ha
  refine (parse_main ⟨(decs a).toArray⟩ w h0 h1 (by omega) (by simpa using decs_dig a)).mono fun e w' ⟨h2, _, h4⟩ => ⟨?_, h4⟩
  have e1 : valL ((⟨(decs a).toArray⟩ : ByteArray).data.toList) = a := by simpa using valL_decs a
  rw [e1] at h2
  exact h2 ha
set_option maxHeartbeats 4000000 in
set_option maxRecDepth 100000 in
theorem shows_in (a : Nat) (w : World) (ha : a < M) (hm : MostIs w) :
    Calls Tryd.prog 11 #[A a] w fun e w' => e = .returned (.bool true) ∧ Below w.heap.size w w' := by
  have HA := Lib.hid ha
  clear ha
  have Ba := Blk.new w 24 #[.int .u64 (hi a), .int .u64 (lo a)]
  have hm0 : MostIs (w.alloc (.cells #[.int .u64 (hi a), .int .u64 (lo a)] 24)) := hm.below (below_al (Below.refl _ _) _)
  clear hm
  go_enter Tryd.func11, Tryd.ntmps11
  go_wp2_with fail
  refine (alive_true _ hm0).mono ?_
  rintro e w1 ⟨rfl, hb1⟩
  have Ba1 := Blk.carry Ba hb1
  have c0 := cell_of0 Ba1
  have c1 := cell_of1 Ba1
  have l0 := Ba1.lt
  clear Ba hm0
  go_wp2_with fail
  refine (show_any a _ HA.out).mono ?_
  rintro e w2 ⟨rfl, hb2⟩
  have Ba2 := Blk.carry Ba1 hb2
  clear c0 c1 l0 Ba1
  go_wp2_with fail
  refine (parse_decs a _ HA.out).mono ?_
  rintro e w3 ⟨rfl, hb3⟩
  have Ba3 := Blk.carry Ba2 hb3
  clear Ba2
  go_wp2_with fail
  have hlist : Has w [(w.heap.size, hi a, lo a), (w3.heap.size, hi a, lo a)] (w3.alloc (.cells #[.int .u64 (hi a), .int .u64 (lo a)] 24)).drew := ⟨by
    intro x hx
    simp only [List.mem_cons, List.mem_nil_iff, or_false] at hx
    rcases hx with rfl | rfl
    · exact (Ba3.alloc _).drew
    · exact (Blk.new _ _ _).drew, by
    repeat (with_reducible first | exact Below.refl _ _ | assumption | refine below_al ?_ _ | refine below_set ?_ (by omega) | refine below_drewN ?_ | refine below_dr ?_ | refine below_on ?_ (by assumption))⟩
  refine region_class (C := Has w [(w.heap.size, hi a, lo a), (w3.heap.size, hi a, lo a)]) (by kernel_rfl) (by kernel_rfl) hlist ?_
  try simp only [List.append]
  go_big_quiet_want; go_big_quiet_op; first | go_big_quiet_on | (refine ⟨_, fun _ _ => rfl, ?_⟩; go_big_quiet_on)
  go_big_quiet_want; refine quiet_load _ 0 rfl rfl rfl ?_; go_big_quiet_on; refine wq_cast (by simp only [Act.put, List.setIfInBounds_toArray, List.set_cons_zero, List.set_cons_succ]; rfl) ?_
  go_big_quiet_want; refine quiet_call2 _ rfl Tryd.func37 (by kernel_rfl) (by kernel_rfl) (by simp only [List.map_toArray, List.map]; rfl) (fun w' hw => (refshow_any a w' HA.out).mono fun e w'' h => ⟨h.1, hw.next h.2⟩) ?_; go_big_quiet_on; refine wq_cast (by simp only [Act.put, List.setIfInBounds_toArray, List.set_cons_zero, List.set_cons_succ]; rfl) ?_
  go_big_quiet_want; go_big_quiet_op; first | go_big_quiet_on | (refine ⟨_, fun _ _ => rfl, ?_⟩; go_big_quiet_on)
  go_big_quiet_want; go_big_quiet_op; first | go_big_quiet_on | (refine ⟨_, fun _ _ => rfl, ?_⟩; go_big_quiet_on)
  first | go_big_quiet_skip | (go_big_quiet_want; refine quiet_load _ 1 rfl rfl rfl ?_; go_big_quiet_on; refine wq_cast (by simp only [Act.put, List.setIfInBounds_toArray, List.set_cons_zero, List.set_cons_succ]; rfl) ?_)
  first | go_big_quiet_skip | (go_big_quiet_want; refine quiet_load _ 0 rfl rfl rfl ?_; go_big_quiet_on; refine wq_cast (by simp only [Act.put, List.setIfInBounds_toArray, List.set_cons_zero, List.set_cons_succ]; rfl) ?_)
  first | go_big_quiet_skip | (go_big_quiet_want; refine quiet_cmp _ _ rfl rfl rfl (self2 _ _) ?_; go_big_quiet_on; refine wq_cast (by simp only [Act.put, List.setIfInBounds_toArray, List.set_cons_zero, List.set_cons_succ]; rfl) ?_)
  go_big_quiet_want; go_big_quiet_op; first | go_big_quiet_on | (refine ⟨_, fun _ _ => rfl, ?_⟩; go_big_quiet_on)
  go_big_quiet_want; go_big_quiet_op; first | go_big_quiet_on | (refine ⟨_, fun _ _ => rfl, ?_⟩; go_big_quiet_on)
  first | go_big_quiet_skip | (go_big_quiet_want; go_big_quiet_op; first | go_big_quiet_on | (refine ⟨_, fun _ _ => rfl, ?_⟩; go_big_quiet_on))
  first | go_big_quiet_skip | (go_big_quiet_want; go_big_quiet_op; first | go_big_quiet_on | (refine ⟨_, fun _ _ => rfl, ?_⟩; go_big_quiet_on))
  go_big_quiet_want; go_big_quiet_op; first | go_big_quiet_on | (refine ⟨_, fun _ _ => rfl, ?_⟩; go_big_quiet_on)
  go_big_quiet_want; go_big_quiet_op; first | go_big_quiet_on | (refine ⟨_, fun _ _ => rfl, ?_⟩; go_big_quiet_on)
  first | go_big_quiet_skip | (go_big_quiet_want; go_big_quiet_op; first | go_big_quiet_on | (refine ⟨_, fun _ _ => rfl, ?_⟩; go_big_quiet_on))
  first | go_big_quiet_skip | (go_big_quiet_want; refine quiet_load22 _ 0 rfl rfl rfl ?_; go_big_quiet_on; refine wq_cast (by simp only [Act.put, List.setIfInBounds_toArray, List.set_cons_zero, List.set_cons_succ]; rfl) ?_)
  first | go_big_quiet_skip | (go_big_quiet_want; refine quiet_call2 _ rfl Tryd.func38 (by kernel_rfl) (by kernel_rfl) (by simp only [List.map_toArray, List.map]; rfl) (fun w' hw => (of_lo a w').mono fun e w'' h => ⟨h.1, hw.next h.2⟩) ?_; go_big_quiet_on; refine wq_cast (by simp only [Act.put, List.setIfInBounds_toArray, List.set_cons_zero, List.set_cons_succ]; rfl) ?_)
  first | go_big_quiet_skip | (go_big_quiet_want; go_big_quiet_op; first | go_big_quiet_on | (refine ⟨_, fun _ _ => rfl, ?_⟩; go_big_quiet_on))
  first | go_big_quiet_skip | (go_big_quiet_want; refine quiet_load22 _ 0 rfl rfl rfl ?_; go_big_quiet_on; refine wq_cast (by simp only [Act.put, List.setIfInBounds_toArray, List.set_cons_zero, List.set_cons_succ]; rfl) ?_)
  first | go_big_quiet_skip | (go_big_quiet_want; go_big_quiet_op; first | go_big_quiet_on | (refine ⟨_, fun _ _ => rfl, ?_⟩; go_big_quiet_on))
  first | go_big_quiet_skip | (go_big_quiet_want; refine quiet_cmp _ _ rfl rfl rfl (self2 _ _) ?_; go_big_quiet_on; refine wq_cast (by simp only [Act.put, List.setIfInBounds_toArray, List.set_cons_zero, List.set_cons_succ]; rfl) ?_)
  go_big_quiet_want; go_big_quiet_op; first | go_big_quiet_on | (refine ⟨_, fun _ _ => rfl, ?_⟩; go_big_quiet_on)
  go_big_quiet_want; go_big_quiet_op; first | go_big_quiet_on | (refine ⟨_, fun _ _ => rfl, ?_⟩; go_big_quiet_on)
  refine wpQuiet_nil ?_
  intro w6 hw6
  go_wp2
  go_ret
  exact ⟨rfl, hw6.bel⟩
theorem walkWideShows (x0 : Int) (v0 : (Lit.int .u64 x0).wf = true) (x1 : Int) (v1 : (Lit.int .u64 x1).wf = true) (w : World) (hm : MostIs w) :
    Calls Tryd.prog 11 #[.agg #[.int .u64 x0, .int .u64 x1]] w fun e w' => e = .returned (.bool true) ∧ Below w.heap.size w w' := by
  obtain ⟨a, ha, rfl, rfl⟩ := num_of x0 x1 v0 v1
  exact shows_in a w ha hm
end Go.Proofs.YtjjlfkbgieloeaaDoor
