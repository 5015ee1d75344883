/- The walk of the law QueueTimes. Conditions: those of its row. -/
import Derived.Test.YtmepipnledoinaaQAlive
namespace Go.Proofs.Ytmepipnledoinaa
open Go.RowKit Go.BigFrame
/-- the items of the first times -/
def its (D : List Int) (i : Nat) : List It := (List.range i).map fun j => ⟨D.getD j 0, (j : Int), 0, 0⟩
theorem its_succ (D : List Int) (i : Nat) : its D (i + 1) = its D i ++ [⟨D.getD i 0, (i : Int), 0, 0⟩] := by
  unfold its; rw [List.range_succ, List.map_append]; rfl
theorem its_length (D : List Int) (i : Nat) : (its D i).length = i := by simp [its]
/-- how many of the first times are later -/
def late (D : List Int) (now : Int) (i : Nat) : Nat := ((its D i).filter fun x => decide (now < x.due)).length
theorem late_succ (D : List Int) (now : Int) (i : Nat) : late D now (i + 1) = late D now i + if now < D.getD i 0 then 1 else 0 := by
  unfold late
  rw [its_succ, List.filter_append, List.length_append]
  by_cases h : now < D.getD i 0
  · rw [if_pos h, List.filter_cons_of_pos (by simpa using h)]; rfl
  · rw [if_neg h, List.filter_cons_of_neg (by simpa using h)]; rfl
theorem late_le (D : List Int) (now : Int) (i : Nat) : late D now i ≤ i := by
  unfold late
  have := List.length_filter_le (fun x : It => decide (now < x.due)) (its D i)
  rw [its_length] at this
  exact this
theorem pop_none (B q : Nat) (b : Option Nat) (h : List It) (now : Int) (w : World) (ha : QAt w B q b h) (hs : ∀ x ∈ h, now < x.due) :
    Calls Try.prog 9 #[.pointer (some ⟨q, 0, none⟩), .int .i64 now] w fun e w' => e = .returned no2 ∧ Below w.heap.size w w' := by
  rcases h with _ | ⟨y, t⟩
  · exact pop_no B q b now w ha
  · exact pop_late B q b (y :: t) y t.length now w ha rfl rfl (hs y (List.mem_cons_self ..))
abbrev ints (D : List Int) : List Value := D.map (Value.int .i64)
theorem ints_at {w : World} {B n k : Nat} {A : Option Addr} {D : List Int} (r : Reads w B 1 A n (ints D)) (hk : k < n) : ∃ ad, A = some ad ∧ w.cell? (ad.add k) = some (.int .i64 (D.getD k 0)) := by
  obtain ⟨ad, u, e, _, hx, hc⟩ := r.at_ hk
  refine ⟨ad, e, ?_⟩
  have hl : k < D.length := by have := r.1; simp at this; omega
  rw [List.getElem?_map, List.getElem?_eq_getElem hl] at hx
  simp at hx
  rw [hc, ← hx, List.getD_eq_getElem?_getD, List.getElem?_eq_getElem hl]
  rfl
theorem upper (l : List It) (now : Nat) : (l.filter fun x => decide (now = 0) || decide ((now : Int) ≤ x.due)).filter (fun x => decide ((now : Int) < x.due)) = l.filter (fun x => decide ((now : Int) < x.due)) := by
  rw [List.filter_filter]
  congr 1
  funext x
  by_cases h : (now : Int) < x.due
  · first | (simp [h]; done) | (simp [h]; omega)
  · simp [h]
theorem next_up (l : List It) (now : Nat) : (l.filter fun x => decide (now + 1 = 0) || decide (((now + 1 : Nat) : Int) ≤ x.due)) = l.filter (fun x => decide ((now : Int) < x.due)) := by
  congr 1
theorem head_due {h : List It} (ho : Heap.Ok lt h) {now : Int} (hs : ¬ ∀ x ∈ h, now < x.due) : 0 < h.length ∧ (Heap.g h 0).due ≤ now := by
  have hx : ∃ x ∈ h, x.due ≤ now := by
    refine Classical.byContradiction fun hn => hs fun x hx => ?_
    refine Classical.byContradiction fun h2 => hn ⟨x, hx, by omega⟩
  obtain ⟨x, hx, hd⟩ := hx
  obtain ⟨j, hj, ej⟩ := Heap.mem_g h x hx
  have := ho.first lt_ord j hj
  rw [ej, lt_no] at this
  exact ⟨by omega, by omega⟩
structure T1 (w : World) (B q : Nat) (D : List Int) (n : Nat) (v : Value) (k : Nat) (b : Option Nat) (h : List It) (wr : World) : Prop where
  v : v = .int .i64 ((n - k : Nat) : Int)
  le : k ≤ n
  m : Mine w wr B q b h
  p : h.Perm (its D (n - k))
structure T2 (w : World) (B q : Nat) (D : List Int) (n : Nat) (times now : Nat) (v : Value) (k : Nat) (b : Option Nat) (h : List It) (wr : World) : Prop where
  v : v = .int .i64 (now : Int)
  le : now + k = times
  m : Mine w wr B q b h
  p : h.Perm ((its D n).filter fun x => decide (now = 0) || decide ((now : Int) ≤ x.due))
structure T3 (w : World) (B q : Nat) (D : List Int) (n : Nat) (now : Nat) (k : Nat) (b : Option Nat) (h : List It) (wr : World) : Prop where
  len : h.length = k
  few : h.length ≤ 100
  m : Mine w wr B q b h
  all : ∀ x ∈ h, now = 0 ∨ (now : Int) ≤ x.due
  p : (h.filter fun x => decide ((now : Int) < x.due)).Perm ((its D n).filter fun x => decide ((now : Int) < x.due))
structure T4 (D : List Int) (n : Nat) (now : Nat) (W : World) (vl vi : Value) (k : Nat) (wr : World) : Prop where
  vl : vl = .int .i64 ((late D now (n - k) : Nat) : Int)
  vi : vi = .int .i64 ((n - k : Nat) : Int)
  le : k ≤ n
  same : wr = W
set_option maxRecDepth 100000 in
set_option maxHeartbeats 8000000 in
theorem times_main (A : Option Addr) (n cap times : Nat) (D : List Int) (w : World) (hR : Reads w w.heap.size 1 A n (ints D)) (hn : n ≤ 100) (ht : times ≤ 60) :
    Calls Try.prog 4 #[.slice A n cap, .int .i64 times] w fun e w' => e = .returned (.bool true) ∧ Below w.heap.size w w' := by
  have hn2 : (n : Int) ≤ 100 := by omega
  have HR := Lib.hid hR
  clear hR
  go_enter Try.func4, Try.ntmps4
  go_wp2_with fail
  refine (alive_any _).mono ?_
  rintro e w1 ⟨rfl, hb1⟩
  have M0 := Mine.new w w1 hb1
  go_wp2_with fail
  generalize (w1.alloc (.cells #[.slice none 0 0] 27)) = W at *
  generalize w1.heap.size = q at *
  go_loopg [31] n (fun k v wr => ∃ b h, T1 w (q + 1) q D n v k b h wr)
  case atStart => exact ⟨none, [], by rw [Nat.sub_self]; rfl, Nat.le_refl _, M0, by rw [Nat.sub_self]; exact List.Perm.refl _⟩
  case round =>
    obtain ⟨b, h, rfl, hle, hm, hp⟩ := hrel
    cases gk with
    | succ k =>
      obtain ⟨i, hi⟩ : ∃ i : Nat, n - (k + 1) = i := ⟨_, rfl⟩
      rw [hi] at hp ⊢
      have hin : i < n := by omega
      obtain ⟨ad, rfl, hc⟩ := ints_at (HR.out.below hm.bel) hin
      obtain ⟨d, hd⟩ : ∃ d, D.getD i 0 = d := ⟨_, rfl⟩
      rw [hd] at hc
      have i2 : (i : Int) < (n : Int) := by omega
      have HM := Lib.hid (And.intro hm (And.intro hp (And.intro hi (And.intro hle hd))))
      clear hm hp hi hle hd M0
      go_wp2_with fail
      refine (put_any (q + 1) q b h ⟨d, i, 0, 0⟩ _ HM.out.1.at_ HM.out.1.ok (by rw [HM.out.2.1.length_eq, its_length]; omega)).mono ?_
      rintro e w2 ⟨rfl, h2, p2, l2⟩
      obtain ⟨b2, M2, _⟩ := HM.out.1.left l2
      have HM2 := Lib.hid (And.intro M2 p2)
      clear M2 p2 l2 hc
      go_wp2
      go_roundg k
      case measure => omega
      case rel =>
        obtain ⟨m1, m2, m3, m4, m5⟩ := HM.out
        have hk : n - k = i + 1 := by omega
        exact ⟨b2, h2, by rw [hk]; go_num, by omega, HM2.out.1, by rw [hk, its_succ, m5]; exact HM2.out.2.trans ((m2.cons _).trans (List.perm_append_singleton _ _).symm)⟩
    | zero =>
      rw [Nat.sub_zero] at hp ⊢
      have HM := Lib.hid (And.intro hm hp)
      clear hm hp hle M0
      go_wp2_with fail
      go_loopg [8] times (fun k v wr => ∃ (now : Nat) (b : Option Nat) (h : List It), T2 w (q + 1) q D n times now v k b h wr)
      case atStart => exact ⟨0, b, h, rfl, by omega, HM.out.1, by rw [List.filter_eq_self.2 (fun _ _ => by simp)]; exact HM.out.2⟩
      case round =>
        obtain ⟨now, b2, h2, rfl, hle, hm2, hp2⟩ := hrel
        cases gk with
        | zero =>
          obtain rfl : now = times := by omega
          have HB := Lib.hid hm2.bel
          clear hm2 hp2
          go_wp2
          go_ret
          exact ⟨rfl, HB.out⟩
        | succ k =>
          have hnt : now < times := by omega
          have hnt2 : (now : Int) < (times : Int) := by omega
          have HT := Lib.hid (And.intro hm2 (And.intro hp2 hle))
          clear hm2 hp2 hle
          go_wp2_with fail
          go_loopg [] h2.length (fun k wr => ∃ (b : Option Nat) (h : List It), T3 w (q + 1) q D n now k b h wr)
          case atStart =>
            refine ⟨b2, h2, rfl, ?_, HT.out.1, fun x hx => ?_, ?_⟩
            · have h8 := HT.out.2.1.length_eq
              have h9 := List.length_filter_le (fun x : It => decide (now = 0) || decide ((now : Int) ≤ x.due)) (its D n)
              rw [its_length] at h9
              omega
            · have := (HT.out.2.1.mem_iff (a := x)).1 hx
              rw [List.mem_filter] at this
              have h9 := this.2
              simp at h9
              omega
            · have := HT.out.2.1.filter (fun x => decide ((now : Int) < x.due))
              rwa [upper] at this
          case round =>
            obtain ⟨b3, h3, hlen3, hfew3, hm3, hall3, hp3⟩ := hrel
            by_cases hs : ∀ x ∈ h3, (now : Int) < x.due
            · have hfe : h3.filter (fun x => decide ((now : Int) < x.due)) = h3 := List.filter_eq_self.2 (fun x hx => by simpa using hs x hx)
              have hlate : h3.length = late D now n := by rw [← hfe, hp3.length_eq]; rfl
              rw [hfe] at hp3
              have HS := Lib.hid hs
              have H3 := Lib.hid (And.intro hm3 (And.intro hp3 hlate))
              clear hs hm3 hp3 hlate hfe hall3 hlen3
              go_wp2_with fail
              refine (pop_none (q + 1) q b3 h3 now _ H3.out.1.at_ HS.out).mono ?_
              rintro e w4 ⟨rfl, hb4⟩
              have M4 := (H3.out.1.below hb4).below ((Below.refl w4.heap.size w4).alloc (Nat.le_refl _) ZC)
              have H4 := Lib.hid M4
              clear M4 hb4
              go_wp2_with fail
              generalize (w4.alloc ZC) = W4 at *
              go_loopg [11, 71] n (fun k vl vi wr => T4 D n now W4 vl vi k wr)
              case atStart => exact ⟨by rw [Nat.sub_self]; rfl, by rw [Nat.sub_self]; rfl, Nat.le_refl _, rfl⟩
              case round =>
                obtain ⟨rfl, rfl, hle4, rfl⟩ := hrel
                cases gk with
                | succ k4 =>
                  obtain ⟨i, hi⟩ : ∃ i : Nat, n - (k4 + 1) = i := ⟨_, rfl⟩
                  rw [hi]
                  have hin : i < n := by omega
                  obtain ⟨ad, rfl, hc⟩ := ints_at (HR.out.below H4.out.bel) hin
                  obtain ⟨d, hd⟩ : ∃ d, D.getD i 0 = d := ⟨_, rfl⟩
                  rw [hd] at hc
                  have i2 : (i : Int) < (n : Int) := by omega
                  have hll := late_le D now i
                  have hls := late_succ D now i
                  rw [hd] at hls
                  obtain ⟨x, hx⟩ : ∃ x, late D now i = x := ⟨_, rfl⟩
                  rw [hx] at hls hll ⊢
                  have HK := Lib.hid (And.intro hi (And.intro hle4 hls))
                  clear hi hle4 hls hx hd
                  by_cases hdn : (now : Int) < d
                  all_goals
                    go_wp2
                    go_roundg k4
                    case measure => omega
                    case rel =>
                      obtain ⟨k1, k2, k3⟩ := HK.out
                      have hk : n - k4 = i + 1 := by omega
                      first | rw [if_pos (by omega)] at k3 | rw [if_neg (by omega)] at k3
                      exact ⟨by rw [hk, k3]; go_num, by rw [hk]; go_num, by omega, rfl⟩
                | zero =>
                  rw [Nat.sub_zero]
                  clear hle4
                  go_wp2_with fail
                  refine (len_is (q + 1) q b3 h3 (late D now n) H3.out.2.2 _ H4.out.at_).mono ?_
                  rintro e w5 ⟨rfl, rfl⟩
                  have hll := late_le D now n
                  obtain ⟨x, hx⟩ : ∃ x, late D now n = x := ⟨_, rfl⟩
                  rw [hx] at hll ⊢
                  clear hx
                  have hxx : ((x : Int) == (x : Int)) = true := by simp
                  have hxx2 : ((x : Int) != (x : Int)) = false := by simp
                  go_wp2
                  go_roundg k
                  case measure => omega
                  case rel => exact ⟨now + 1, b3, h3, by go_num, by have := HT.out.2.2; omega, H4.out, by rw [next_up]; exact H3.out.2.1⟩
            · obtain ⟨h0, hdue⟩ := head_due hm3.ok hs
              obtain ⟨m, hm⟩ : ∃ m, h3.length = m + 1 := ⟨h3.length - 1, by omega⟩
              obtain ⟨x, hx⟩ : ∃ x, Heap.g h3 0 = x := ⟨_, rfl⟩
              have hxm : x ∈ h3 := hx ▸ g_mem h0
              have hxa := hall3 x hxm
              rw [hx] at hdue
              have hnd : ¬ (now : Int) < x.due := by omega
              have H3 := Lib.hid (And.intro hm3 (And.intro hp3 (And.intro hm (And.intro hx (And.intro hall3 hlen3)))))
              clear hs hm3 hp3 hm hx hall3 hlen3 hxm
              go_wp2_with fail
              refine (pop_yes (q + 1) q b3 h3 x m now _ H3.out.1.at_ H3.out.1.ok H3.out.2.2.1 (by have := H3.out.2.2.1; omega) H3.out.2.2.2.1 (by omega)).mono ?_
              rintro e w4 ⟨rfl, h4, p4, t4⟩
              have M4 := (H3.out.1.took t4).below ((Below.refl w4.heap.size w4).alloc (Nat.le_refl _) (.cells #[.int .i64 x.due, .int .i64 x.stamp, .int .u64 x.hi, .int .u64 x.lo] 34))
              have H4 := Lib.hid (And.intro M4 p4)
              clear M4 p4 t4
              have hfin : ∀ k3, h3.length = k3 → T3 w (q + 1) q D n now (k3 - 1) b3 h4 (w4.alloc (.cells #[.int .i64 x.due, .int .i64 x.stamp, .int .u64 x.hi, .int .u64 x.lo] 34)) := by
                intro k3 hk3
                obtain ⟨r1, r2, r3, r4, r5, r6⟩ := H3.out
                have hl4 := H4.out.2.length_eq
                rw [List.length_cons] at hl4
                refine ⟨by omega, by omega, H4.out.1, fun y hy => r5 y ((H4.out.2.mem_iff (a := y)).1 (List.mem_cons_of_mem _ hy)), ?_⟩
                have := H4.out.2.filter (fun x => decide ((now : Int) < x.due))
                rw [List.filter_cons_of_neg (by simpa using hnd)] at this
                exact this.trans r2
              have HF := Lib.hid hfin
              clear hfin
              rcases Nat.eq_zero_or_pos now with hz | hz
              · subst hz
                go_wp2
                go_roundg (h3.length - 1)
                case measure => have := H3.out.2.2.2.2.2; omega
                case rel => exact ⟨b3, h4, HF.out _ rfl⟩
              · have hz2 : (0 : Int) < (now : Int) := by omega
                have hge : (now : Int) ≤ x.due := by omega
                go_wp2
                go_roundg (h3.length - 1)
                case measure => have := H3.out.2.2.2.2.2; omega
                case rel => exact ⟨b3, h4, HF.out _ rfl⟩
set_option maxRecDepth 100000 in
theorem times_a (A : Option Addr) (n cap : Nat) (t : Int) (w : World) (hn : 100 < n) :
    Calls Try.prog 4 #[.slice A n cap, .int .i64 t] w fun e w' => e = .returned (.bool true) ∧ Below w.heap.size w w' := by
  have hn2 : (100 : Int) < (n : Int) := by omega
  go_enter Try.func4, Try.ntmps4
  go_wp2_with fail
  refine (alive_any _).mono ?_
  rintro e w1 ⟨rfl, hb1⟩
  go_wp2
  go_ret
  exact ⟨rfl, hb1⟩
set_option maxRecDepth 100000 in
theorem times_b (A : Option Addr) (n cap : Nat) (t : Int) (w : World) (hn : n ≤ 100) (ht : t < 0) :
    Calls Try.prog 4 #[.slice A n cap, .int .i64 t] w fun e w' => e = .returned (.bool true) ∧ Below w.heap.size w w' := by
  have hn2 : (n : Int) ≤ 100 := by omega
  go_enter Try.func4, Try.ntmps4
  go_wp2_with fail
  refine (alive_any _).mono ?_
  rintro e w1 ⟨rfl, hb1⟩
  go_wp2
  go_ret
  exact ⟨rfl, hb1⟩
set_option maxRecDepth 100000 in
theorem times_c (A : Option Addr) (n cap : Nat) (t : Int) (w : World) (hn : n ≤ 100) (ht : 60 < t) :
    Calls Try.prog 4 #[.slice A n cap, .int .i64 t] w fun e w' => e = .returned (.bool true) ∧ Below w.heap.size w w' := by
  have hn2 : (n : Int) ≤ 100 := by omega
  have ht2 : 0 ≤ t := by omega
  go_enter Try.func4, Try.ntmps4
  go_wp2_with fail
  refine (alive_any _).mono ?_
  rintro e w1 ⟨rfl, hb1⟩
  go_wp2
  go_ret
  exact ⟨rfl, hb1⟩
theorem times_any (A : Option Addr) (n cap : Nat) (D : List Int) (t : Int) (w : World) (hR : Reads w w.heap.size 1 A n (ints D)) :
    Calls Try.prog 4 #[.slice A n cap, .int .i64 t] w fun e w' => e = .returned (.bool true) ∧ Below w.heap.size w w' := by
  by_cases hn : n ≤ 100
  · by_cases h1 : t < 0
    · exact times_b A n cap t w hn h1
    · by_cases h2 : 60 < t
      · exact times_c A n cap t w hn h2
      · obtain ⟨t', rfl⟩ := Int.eq_ofNat_of_zero_le (show 0 ≤ t by omega)
        exact times_main A n cap t' D w hR hn (by omega)
  · exact times_a A n cap t w (by omega)
end Go.Proofs.Ytmepipnledoinaa
