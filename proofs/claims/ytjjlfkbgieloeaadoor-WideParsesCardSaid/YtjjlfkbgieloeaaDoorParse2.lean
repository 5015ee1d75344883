/- The contract of wide.Parse: what is parsed. Conditions: none. -/
import Derived.Test.YtjjlfkbgieloeaaDoorParse
namespace Go.Proofs.YtjjlfkbgieloeaaDoor
open Go.RowKit Go.PlainAid
/-- the value ahead of a place -/
def pv (s : ByteArray) (i : Nat) : Nat := valL (s.data.toList.take i)
theorem pv_step (s : ByteArray) (i : Nat) (h : i < s.size) : pv s (i + 1) = pv s i * 10 + (bn s i - 48) := valL_step s i h
theorem pv_all (s : ByteArray) : pv s s.size = valL s.data.toList := by
  unfold pv
  rw [List.take_of_length_le (show s.data.toList.length ≤ s.size from Nat.le_refl _)]
theorem times_fit (s : ByteArray) (i : Nat) (w : World) (h : i < s.size) (hd : s.data.toList.all dig = true) (hM : pv s (i + 1) < M) :
    Calls Tryd.prog 51 #[A (pv s i), .int .u8 (bt s i - 48)] w fun e w' => e = .returned (.tuple #[.agg #[.int .u64 (hi (pv s (i + 1))), .int .u64 (lo (pv s (i + 1)))], .bool true]) ∧ Below w.heap.size w w' := by
  obtain ⟨h1, h2⟩ := dig_at s i h hd
  have hs := pv_step s i h
  have := times_any (pv s i) (bn s i - 48) w (by omega) (by omega)
  rw [show sm (pv s i * 10) (bn s i - 48) = pv s (i + 1) by unfold sm; rw [← hs]; exact if_pos hM, show ok2 (pv s i * 10) (bn s i - 48) = true by unfold ok2; rw [← hs]; exact decide_eq_true hM] at this
  rw [bt_bn, show ((bn s i : Nat) : Int) - 48 = ((bn s i - 48 : Nat) : Int) by omega]
  exact this
theorem times_over (s : ByteArray) (i : Nat) (w : World) (h : i < s.size) (hd : s.data.toList.all dig = true) (ha : pv s i < M) (hM : ¬ pv s (i + 1) < M) :
    Calls Tryd.prog 51 #[A (pv s i), .int .u8 (bt s i - 48)] w fun e w' => e = .returned (.tuple #[.agg #[.int .u64 0, .int .u64 0], .bool false]) ∧ Below w.heap.size w w' := by
  obtain ⟨h1, h2⟩ := dig_at s i h hd
  have hs := pv_step s i h
  have := times_any (pv s i) (bn s i - 48) w ha (by omega)
  rw [show sm (pv s i * 10) (bn s i - 48) = 0 by unfold sm; rw [← hs]; exact if_neg hM, show ok2 (pv s i * 10) (bn s i - 48) = false by unfold ok2; rw [← hs]; exact decide_eq_false hM, hi_zero, lo_zero] at this
  rw [bt_bn, show ((bn s i : Nat) : Int) - 48 = ((bn s i - 48 : Nat) : Int) by omega]
  exact this
structure ParseInv (w : World) (s : ByteArray) (g : Nat) (v : Value) (k : Nat) (wr : World) : Prop where
  v : v = .int .i64 ((s.size - k : Nat) : Int)
  le : k ≤ s.size
  res : Blk wr w.heap.size 24 #[.int .u64 0, .int .u64 0]
  num : Blk wr (w.heap.size + 1) 24 #[.int .u64 (hi (pv s (s.size - k))), .int .u64 (lo (pv s (s.size - k)))]
  small : pv s (s.size - k) < M
  bel : Below w.heap.size w wr
def ParsePost (w : World) (s : ByteArray) (e : Ending) (w' : World) : Prop :=
  (valL s.data.toList < M → e = .returned (.tuple #[.agg #[.int .u64 (hi (valL s.data.toList)), .int .u64 (lo (valL s.data.toList))], .int .i64 0])) ∧ (¬ valL s.data.toList < M → e = .returned (.tuple #[.agg #[.int .u64 0, .int .u64 0], .int .i64 4])) ∧ Below w.heap.size w w'
set_option maxRecDepth 100000 in
set_option maxHeartbeats 4000000 in
theorem parse_main (s : ByteArray) (w : World) (h0 : 0 < s.size) (h1 : s.size = 1 ∨ ¬ bt s 0 = 48) (hs : s.size ≤ 9223372036854775807) (hd : s.data.toList.all dig = true) : Calls Tryd.prog 36 #[.string s] w (ParsePost w s) := by
  have HT := fun w => trim_yes s w hs hd
  have hbt := get_bt s
  have he := isEmpty_no s h0
  obtain ⟨Ba, Bb⟩ := two_zero w
  have HD := Lib.hid hd
  have H1 : s.size = 1 ∧ s.size = 1 ∨ (bt s 0 == 48) = false ∧ 1 < s.size := by
    rcases h1 with h1 | h1
    · exact .inl ⟨h1, h1⟩
    · rcases Nat.lt_or_ge 1 s.size with h | h
      · exact .inr ⟨by simpa using h1, h⟩
      · exact .inl ⟨by omega, by omega⟩
  clear h1 hd
  rcases H1 with ⟨h2, h3⟩ | ⟨h2, h3⟩
  all_goals
    go_enter Tryd.func36, Tryd.ntmps36
    go_wp2_with fail
    refine (HT _).mono ?_
    rintro e w1 ⟨rfl, hb1⟩
    have HB1 := Lib.hid (And.intro (Blk.carry Ba hb1) (And.intro (Blk.carry Bb hb1) (show Below w.heap.size w w1 by repeat (with_reducible first | exact Below.refl _ _ | assumption | refine below_al ?_ _ | refine below_set ?_ (by omega) | refine below_drewN ?_ | refine below_dr ?_ | refine below_on ?_ (by assumption)))))
    clear Ba Bb hb1
    go_wp2_with fail
    go_loopg [27] s.size (fun k v wr => ParseInv w s 0 v k wr)
    case atStart =>
      have hz : pv s 0 = 0 := rfl
      refine ⟨by simp, Nat.le_refl _, HB1.out.1, ?_, by rw [Nat.sub_self, hz]; decide, ?_⟩
      · rw [Nat.sub_self, hz]
        exact HB1.out.2.1
      · exact HB1.out.2.2
    case round =>
      obtain ⟨rfl, hle, hres, hnum, hsm, hbel⟩ := hrel
      cases gk with
      | zero =>
        simp only [Nat.sub_zero] at *
        rw [pv_all] at hnum hsm
        have c0 := cell_of0 hnum
        have c1 := cell_of1 hnum
        have d0 := cell_of0 hres
        have d1 := cell_of1 hres
        have f0 := hres.frozen 0
        have f1 := hres.frozen 1
        have l0 := hres.lt
        have l1 := hnum.lt
        have HS := Lib.hid hsm
        have HBB := Lib.hid hbel
        clear hres hnum hsm hbel hle
        go_wp2
        exact bodyPost_ret (v := .tuple #[.agg #[.int .u64 (hi (valL s.data.toList)), .int .u64 (lo (valL s.data.toList))], .int .i64 0]) (by simp [results, Tryd.results36, go_sem, d0, d1]) rfl ⟨fun _ => rfl, fun h => absurd HS.out h, below_set (below_set HBB.out (by omega)) (by omega)⟩
      | succ k =>
        obtain ⟨i, hi⟩ : ∃ i : Nat, s.size - (k + 1) = i := ⟨_, rfl⟩
        rw [hi] at hnum hsm ⊢
        have hi8 : i < s.size := by omega
        have HK := Lib.hid (And.intro hi hle)
        obtain ⟨q1, q2⟩ := dig_at s i hi8 HD.out
        have q3 : 48 ≤ bt s i := by rw [bt_bn]; omega
        have q4 : bt s i ≤ 57 := by rw [bt_bn]; omega
        have hq : IntKind.u8.wrap (bt s i - 48) = bt s i - 48 := IntWalk.u8_in _ (by omega)
        have c0 := cell_of0 hnum
        have c1 := cell_of1 hnum
        have f0 := hnum.frozen 0
        have f1 := hnum.frozen 1
        have l1 := hnum.lt
        have l0 := hres.lt
        have HH := Lib.hid (And.intro hnum (And.intro hres (And.intro hbel hsm)))
        clear hi hle q1 q2 hnum hres hbel hsm
        by_cases hM : pv s (i + 1) < M
        · have HM := Lib.hid hM
          clear hM
          go_wp2_with fail
          go_region_with (go_at_call 51; (with_reducible refine (times_fit s i _ hi8 HD.out HM.out).mono ?_); rintro e w9 ⟨rfl, hb9⟩; have HX := Lib.hid (And.intro (Blk.carry (by repeat (first | exact HH.out.1 | apply Blk.drew | apply Blk.alloc)) hb9 : Blk w9 (w.heap.size + 1) 24 #[.int .u64 (hi (pv s i)), .int .u64 (lo (pv s i))]) (And.intro (Blk.carry (by repeat (first | exact HH.out.2.1 | apply Blk.drew | apply Blk.alloc)) hb9 : Blk w9 w.heap.size 24 #[.int .u64 0, .int .u64 0]) (below_on (by repeat (first | exact HH.out.2.2.1 | refine below_dr ?_) : Below w.heap.size w _) hb9))); have n0 := cell_of0 HX.out.1; have n1 := cell_of1 HX.out.1; have m0 := HX.out.1.frozen 0; have m1 := HX.out.1.frozen 1; have r0 := cell_of0 HX.out.2.1; have r1 := cell_of1 HX.out.2.1; have y0 := HX.out.2.1.frozen 0; have y1 := HX.out.2.1.frozen 1; have k0 := HX.out.1.lt; have k1 := HX.out.2.1.lt)
          all_goals go_wp2
          all_goals
            go_roundg k
            case measure => omega
            case rel =>
              have hk : s.size - k = i + 1 := by have := HK.out; omega
              refine ⟨by rw [hk]; simp, by have := HK.out; omega, ?_, ?_, by rw [hk]; exact HM.out, ?_⟩
              · exact (HX.out.2.1.far (p := ⟨w.heap.size + 1, 0, none⟩) (by simp) _).far (p := ⟨w.heap.size + 1, 1, none⟩) (by simp) _
              · rw [hk]
                exact (HX.out.1.set_ 0 _).set_ 1 _
              · exact below_set (below_set HX.out.2.2 (by omega)) (by omega)
        · have HM := Lib.hid hM
          clear hM
          go_wp2_with fail
          go_region_with (go_at_call 51; (with_reducible refine (times_over s i _ hi8 HD.out HH.out.2.2.2 HM.out).mono ?_); rintro e w9 ⟨rfl, hb9⟩; have HX := Lib.hid (And.intro (Blk.carry (by repeat (first | exact HH.out.1 | apply Blk.drew | apply Blk.alloc)) hb9 : Blk w9 (w.heap.size + 1) 24 #[.int .u64 (hi (pv s i)), .int .u64 (lo (pv s i))]) (And.intro (Blk.carry (by repeat (first | exact HH.out.2.1 | apply Blk.drew | apply Blk.alloc)) hb9 : Blk w9 w.heap.size 24 #[.int .u64 0, .int .u64 0]) (below_on (by repeat (first | exact HH.out.2.2.1 | refine below_dr ?_) : Below w.heap.size w _) hb9))); have n0 := cell_of0 HX.out.1; have n1 := cell_of1 HX.out.1; have m0 := HX.out.1.frozen 0; have m1 := HX.out.1.frozen 1; have r0 := cell_of0 HX.out.2.1; have r1 := cell_of1 HX.out.2.1; have y0 := HX.out.2.1.frozen 0; have y1 := HX.out.2.1.frozen 1; have k0 := HX.out.1.lt; have k1 := HX.out.2.1.lt)
          all_goals go_wp2
          all_goals
            exact bodyPost_ret (v := .tuple #[.agg #[.int .u64 0, .int .u64 0], .int .i64 4]) (by simp [results, Tryd.results36, go_sem, r0, r1]) rfl ⟨fun h => absurd (Nat.lt_of_le_of_lt (valL_take s.data.toList (i + 1)) h) HM.out, fun _ => rfl, by have := HX.out.2.2; repeat (with_reducible first | exact Below.refl _ _ | assumption | refine below_set ?_ (by omega))⟩
end Go.Proofs.YtjjlfkbgieloeaaDoor
