/- The contract of down: an item goes down till none below it is ahead. Conditions: a heap but for that item. -/
import Derived.Test.YtmepipnledoinaaUp
namespace Go.Proofs.Ytmepipnledoinaa
open Go.RowKit Go.BigFrame
structure DownInv (w : World) (B q g cap : Nat) (h : List It) (i j : Nat) (h' : List It) (v : Value) (k : Nat) (wr : World) : Prop where
  v : v = .int .i64 (j : Int)
  le : h.length - j ≤ k
  c : QC w B q g cap h' wr
  down : Heap.Down lt h' i j
  len : h'.length = h.length
  perm : h'.Perm h
structure LeastInv (w : World) (B q g cap : Nat) (j : Nat) (h' : List It) (kk c : Nat) (vk vc : Value) (k : Nat) (wr : World) : Prop where
  vk : vk = .int .i64 (kk : Int)
  vc : vc = .int .i64 (c : Int)
  sum : c + k = 2 * j + 3
  ge : 2 * j + 1 ≤ c
  least : Heap.Least lt h' j kk c
  c : QC w B q g cap h' wr
set_option maxRecDepth 1000000 in
set_option maxHeartbeats 16000000 in
theorem down_any (B q g cap i : Nat) (h : List It) (w : World) (hr : QRow w B q g cap h) (hu : Heap.Down lt h i i) (hl : h.length ≤ 1000) :
    Calls Try.prog 19 #[.pointer (some ⟨q, 0, none⟩), .int .i64 i] w fun e w' => e = .returned (.tuple #[]) ∧ ∃ h', QRow w' B q g cap h' ∧ h'.length = h.length ∧ h'.Perm h ∧ Heap.Up lt h' i ∧ w.grownBy w' (some g) := by
  have H := Lib.hid (And.intro hr hu)
  clear hr hu
  go_enter Try.func19, Try.ntmps19
  go_wp2_with fail
  go_loopg [1] (h.length - i) (fun k v wr => ∃ (j : Nat) (h' : List It), DownInv w B q g cap h i j h' v k wr)
  case atStart => exact ⟨i, h, rfl, Nat.le_refl _, ⟨H.out.1, World.grownBy.refl _ _⟩, H.out.2, rfl, List.Perm.refl _⟩
  case round =>
    obtain ⟨j, h', rfl, hle, hc, hdn, hlen, hperm⟩ := hrel
    have hjl := hdn.bd
    have hjk : j < 1000 := by omega
    have j0 : (0 : Int) ≤ (j : Int) := by omega
    have j2 : (j : Int) < (h'.length : Int) := by omega
    have hl3 : (h'.length : Int) ≤ 1000 := by omega
    have HH := Lib.hid (And.intro hdn (And.intro hle (And.intro hlen hperm)))
    have HC0 := Lib.hid hc
    clear hdn hlen hperm hle hc
    go_wp2_with fail
    go_loopg [4, 5] 2 (fun k vk vc wr => ∃ kk c : Nat, LeastInv w B q g cap j h' kk c vk vc k wr)
    case atStart => exact ⟨j, 2 * j + 1, rfl, by go_num, by omega, Nat.le_refl _, Heap.Least.start hjl, HC0.out⟩
    case round =>
      obtain ⟨kk, c, rfl, rfl, hsum, hge, hleast, hcw⟩ := hrel
      have HL := Lib.hid hleast
      have HC := Lib.hid hcw
      have hcell := hcw.row.cell
      clear hleast hcw HC0
      have hc2 : (c : Int) ≤ 2 * (j : Int) + 3 := by omega
      by_cases hkz : c ≤ 2 * j + 2
      · by_cases hcl : c < h'.length
        · obtain ⟨x, hx⟩ : ∃ x, Heap.g h' c = x := ⟨_, rfl⟩
          obtain ⟨y, hy⟩ : ∃ y, Heap.g h' kk = y := ⟨_, rfl⟩
          have hkl := HL.out.cl
          have HX := Lib.hid (And.intro hx (And.intro hy (And.intro hcl hkl)))
          have hpc : Heap.par c = j := by unfold Heap.par; omega
          have HP := Lib.hid hpc
          have c1 : (c : Int) ≤ 2 * (j : Int) + 2 := by omega
          have c3 : (c : Int) < (h'.length : Int) := by omega
          have c4 : (0 : Int) ≤ (c : Int) := by omega
          have k0 : (0 : Int) ≤ (kk : Int) := by omega
          have k2 : (kk : Int) < (h'.length : Int) := by omega
          clear hx hy hpc
          cases hb : lt x y
          · have HB := fun w => before_is x y false hb w
            go_wp2_with fail
            refine region_class (C := QC w B q g cap h') (by kernel_rfl) (by kernel_rfl) HC.out.drew ?_
            try simp only [List.append]
            go_big_quiet_want; go_big_quiet_op; first | go_big_quiet_on | (refine ⟨_, fun _ _ => rfl, ?_⟩; go_big_quiet_on)
            go_big_quiet_want; go_big_quiet_op; first | go_big_quiet_on | (refine ⟨_, fun _ _ => rfl, ?_⟩; go_big_quiet_on)
            go_big_quiet_want; go_big_quiet_op; first | go_big_quiet_on | (refine ⟨_, fun _ _ => rfl, ?_⟩; go_big_quiet_on)
            go_big_quiet_want; refine quiet_q _ (fun w c => c.row.cell) rfl rfl ?_; go_big_quiet_on; refine wq_cast (by simp only [Act.put, List.setIfInBounds_toArray, List.set_cons_zero, List.set_cons_succ]; rfl) ?_
            go_big_quiet_want; go_big_quiet_op; first | go_big_quiet_on | (refine ⟨_, fun _ _ => rfl, ?_⟩; go_big_quiet_on)
            go_big_quiet_want; go_big_quiet_op; first | go_big_quiet_on | (refine ⟨_, fun _ _ => rfl, ?_⟩; go_big_quiet_on)
            go_big_quiet_want; refine quiet_item _ (fun w c => c.item HX.out.2.2.1 HX.out.1) rfl rfl ?_; go_big_quiet_on; refine wq_cast (by simp only [Act.put, List.setIfInBounds_toArray, List.set_cons_zero, List.set_cons_succ]; rfl) ?_
            go_big_quiet_want; go_big_quiet_op; first | go_big_quiet_on | (refine ⟨_, fun _ _ => rfl, ?_⟩; go_big_quiet_on)
            go_big_quiet_want; go_big_quiet_op; first | go_big_quiet_on | (refine ⟨_, fun _ _ => rfl, ?_⟩; go_big_quiet_on)
            go_big_quiet_want; go_big_quiet_op; first | go_big_quiet_on | (refine ⟨_, fun _ _ => rfl, ?_⟩; go_big_quiet_on)
            go_big_quiet_want; refine quiet_q _ (fun w c => c.row.cell) rfl rfl ?_; go_big_quiet_on; refine wq_cast (by simp only [Act.put, List.setIfInBounds_toArray, List.set_cons_zero, List.set_cons_succ]; rfl) ?_
            go_big_quiet_want; go_big_quiet_op; first | go_big_quiet_on | (refine ⟨_, fun _ _ => rfl, ?_⟩; go_big_quiet_on)
            go_big_quiet_want; go_big_quiet_op; first | go_big_quiet_on | (refine ⟨_, fun _ _ => rfl, ?_⟩; go_big_quiet_on)
            go_big_quiet_want; refine quiet_item _ (fun w c => c.item HX.out.2.2.2 HX.out.2.1) rfl rfl ?_; go_big_quiet_on; refine wq_cast (by simp only [Act.put, List.setIfInBounds_toArray, List.set_cons_zero, List.set_cons_succ]; rfl) ?_
            go_big_quiet_want; refine quiet_call2 _ rfl Try.func18 (by kernel_rfl) (by kernel_rfl) (by simp only [List.map_toArray, List.map]; rfl) (fun w' hw => (HB w').mono fun e w'' h => ⟨h.1, hw.next h.2⟩) ?_; go_big_quiet_on; refine wq_cast (by simp only [Act.put, List.setIfInBounds_toArray, List.set_cons_zero, List.set_cons_succ]; rfl) ?_
            refine wpQuiet_nil ?_
            intro w4 hw4
            go_wp2
            go_roundg (2 * j + 2 - c)
            case measure => omega
            case rel => exact ⟨kk, c + 1, rfl, by go_num, by omega, by omega, HL.out.keep (fun _ => by rw [HX.out.1, HX.out.2.1]; exact hb), hw4⟩
          · have HB := fun w => before_is x y true hb w
            go_wp2_with fail
            refine region_class (C := QC w B q g cap h') (by kernel_rfl) (by kernel_rfl) HC.out.drew ?_
            try simp only [List.append]
            go_big_quiet_want; go_big_quiet_op; first | go_big_quiet_on | (refine ⟨_, fun _ _ => rfl, ?_⟩; go_big_quiet_on)
            go_big_quiet_want; go_big_quiet_op; first | go_big_quiet_on | (refine ⟨_, fun _ _ => rfl, ?_⟩; go_big_quiet_on)
            go_big_quiet_want; go_big_quiet_op; first | go_big_quiet_on | (refine ⟨_, fun _ _ => rfl, ?_⟩; go_big_quiet_on)
            go_big_quiet_want; refine quiet_q _ (fun w c => c.row.cell) rfl rfl ?_; go_big_quiet_on; refine wq_cast (by simp only [Act.put, List.setIfInBounds_toArray, List.set_cons_zero, List.set_cons_succ]; rfl) ?_
            go_big_quiet_want; go_big_quiet_op; first | go_big_quiet_on | (refine ⟨_, fun _ _ => rfl, ?_⟩; go_big_quiet_on)
            go_big_quiet_want; go_big_quiet_op; first | go_big_quiet_on | (refine ⟨_, fun _ _ => rfl, ?_⟩; go_big_quiet_on)
            go_big_quiet_want; refine quiet_item _ (fun w c => c.item HX.out.2.2.1 HX.out.1) rfl rfl ?_; go_big_quiet_on; refine wq_cast (by simp only [Act.put, List.setIfInBounds_toArray, List.set_cons_zero, List.set_cons_succ]; rfl) ?_
            go_big_quiet_want; go_big_quiet_op; first | go_big_quiet_on | (refine ⟨_, fun _ _ => rfl, ?_⟩; go_big_quiet_on)
            go_big_quiet_want; go_big_quiet_op; first | go_big_quiet_on | (refine ⟨_, fun _ _ => rfl, ?_⟩; go_big_quiet_on)
            go_big_quiet_want; go_big_quiet_op; first | go_big_quiet_on | (refine ⟨_, fun _ _ => rfl, ?_⟩; go_big_quiet_on)
            go_big_quiet_want; refine quiet_q _ (fun w c => c.row.cell) rfl rfl ?_; go_big_quiet_on; refine wq_cast (by simp only [Act.put, List.setIfInBounds_toArray, List.set_cons_zero, List.set_cons_succ]; rfl) ?_
            go_big_quiet_want; go_big_quiet_op; first | go_big_quiet_on | (refine ⟨_, fun _ _ => rfl, ?_⟩; go_big_quiet_on)
            go_big_quiet_want; go_big_quiet_op; first | go_big_quiet_on | (refine ⟨_, fun _ _ => rfl, ?_⟩; go_big_quiet_on)
            go_big_quiet_want; refine quiet_item _ (fun w c => c.item HX.out.2.2.2 HX.out.2.1) rfl rfl ?_; go_big_quiet_on; refine wq_cast (by simp only [Act.put, List.setIfInBounds_toArray, List.set_cons_zero, List.set_cons_succ]; rfl) ?_
            go_big_quiet_want; refine quiet_call2 _ rfl Try.func18 (by kernel_rfl) (by kernel_rfl) (by simp only [List.map_toArray, List.map]; rfl) (fun w' hw => (HB w').mono fun e w'' h => ⟨h.1, hw.next h.2⟩) ?_; go_big_quiet_on; refine wq_cast (by simp only [Act.put, List.setIfInBounds_toArray, List.set_cons_zero, List.set_cons_succ]; rfl) ?_
            refine wpQuiet_nil ?_
            intro w4 hw4
            go_wp2
            go_roundg (2 * j + 2 - c)
            case measure => omega
            case rel => exact ⟨c, c + 1, rfl, by go_num, by omega, by omega, HL.out.take lt_ord hcl HP.out (by omega) (by rw [HX.out.1, HX.out.2.1]; exact hb), hw4⟩
        · have c1 : (c : Int) ≤ 2 * (j : Int) + 2 := by omega
          have c3 : (h'.length : Int) ≤ (c : Int) := by omega
          have hkl := HL.out.cl
          by_cases hkj : kk = j
          · subst hkj
            have hkk : ((kk : Int) == (kk : Int)) = true := by simp
            go_wp2
            exact bodyPost_ret (v := .tuple #[]) (results_none rfl _ _ _) rfl ⟨rfl, h', HC.out.row, HH.out.2.2.1, HH.out.2.2.2, HH.out.1.stop lt_ord HL.out (by omega), HC.out.grow⟩
          · have hkk : ((kk : Int) == (j : Int)) = false := by simp; omega
            obtain ⟨x, hx⟩ : ∃ x, Heap.g h' j = x := ⟨_, rfl⟩
            obtain ⟨y, hy⟩ : ∃ y, Heap.g h' kk = y := ⟨_, rfl⟩
            have hlt : j < kk := by
              rcases HL.out.kid with e | ⟨e1, e2, _⟩
              · exact absurd e hkj
              · have := Heap.par_lt e2
                omega
            have c0 := HC.out.row.cell
            obtain ⟨a0, a1, a2, a3⟩ := HC.out.item hjl hx
            obtain ⟨b0, b1, b2, b3⟩ := HC.out.item hkl hy
            have fz := HC.out.row.free
            have hqg : q < g := by have := HC.out.row.base; have := HC.out.row.hq; omega
            have HY := Lib.hid (And.intro hx (And.intro hy hkj))
            have k0 : (0 : Int) ≤ (kk : Int) := by omega
            have k2 : (kk : Int) < (h'.length : Int) := by omega
            clear hx hy hkj
            go_wp2_with fail
            go_region
            clear c0 a0 a1 a2 a3 b0 b1 b2 b3 fz
            go_wp2
            go_roundg (h.length - kk)
            case measure => have := HH.out.2.1; have := HH.out.2.2.1; omega
            case rel =>
              have hs := (HC.out.swapx HY.out.1 HY.out.2.1).drew
              have hdn := HH.out.1.step lt_ord HL.out (by omega) HY.out.2.2
              exact ⟨kk, Heap.swap h' j kk, rfl, Nat.le_refl _, hs, hdn, by rw [Heap.swap_length, HH.out.2.2.1], (Heap.swap_perm h' j kk hjl hkl).trans HH.out.2.2.2⟩
      · have c1 : 2 * (j : Int) + 2 < (c : Int) := by omega
        have hkl := HL.out.cl
        by_cases hkj : kk = j
        · subst hkj
          have hkk : ((kk : Int) == (kk : Int)) = true := by simp
          go_wp2
          exact bodyPost_ret (v := .tuple #[]) (results_none rfl _ _ _) rfl ⟨rfl, h', HC.out.row, HH.out.2.2.1, HH.out.2.2.2, HH.out.1.stop lt_ord HL.out (by omega), HC.out.grow⟩
        · have hkk : ((kk : Int) == (j : Int)) = false := by simp; omega
          obtain ⟨x, hx⟩ : ∃ x, Heap.g h' j = x := ⟨_, rfl⟩
          obtain ⟨y, hy⟩ : ∃ y, Heap.g h' kk = y := ⟨_, rfl⟩
          have hlt : j < kk := by
            rcases HL.out.kid with e | ⟨e1, e2, _⟩
            · exact absurd e hkj
            · have := Heap.par_lt e2
              omega
          have c0 := HC.out.row.cell
          obtain ⟨a0, a1, a2, a3⟩ := HC.out.item hjl hx
          obtain ⟨b0, b1, b2, b3⟩ := HC.out.item hkl hy
          have fz := HC.out.row.free
          have hqg : q < g := by have := HC.out.row.base; have := HC.out.row.hq; omega
          have HY := Lib.hid (And.intro hx (And.intro hy hkj))
          have k0 : (0 : Int) ≤ (kk : Int) := by omega
          have k2 : (kk : Int) < (h'.length : Int) := by omega
          clear hx hy hkj
          go_wp2_with fail
          go_region
          clear c0 a0 a1 a2 a3 b0 b1 b2 b3 fz
          go_wp2
          go_roundg (h.length - kk)
          case measure => have := HH.out.2.1; have := HH.out.2.2.1; omega
          case rel =>
            have hs := (HC.out.swapx HY.out.1 HY.out.2.1).drew
            have hdn := HH.out.1.step lt_ord HL.out (by omega) HY.out.2.2
            exact ⟨kk, Heap.swap h' j kk, rfl, Nat.le_refl _, hs, hdn, by rw [Heap.swap_length, HH.out.2.2.1], (Heap.swap_perm h' j kk hjl hkl).trans HH.out.2.2.2⟩
end Go.Proofs.Ytmepipnledoinaa
