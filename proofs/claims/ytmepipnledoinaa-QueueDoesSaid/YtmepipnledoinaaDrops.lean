/- The walk of the law QueueDrops. Conditions: those of its row. -/
import Derived.Test.YtmepipnledoinaaGone
namespace Go.Proofs.Ytmepipnledoinaa
open Go.RowKit Go.BigFrame
open Go.Maps (Keyed)
theorem law3 : Keyed Try.prog 3 := Maps.int_keyed Try.underlying3
theorem zero4 (w : World) : (zeroValue 4).run Try.prog w = .ok (.bool false) w := by kernel_rfl
abbrev OwnG (w : World) (M n : Nat) (E : List Int) (i : Nat) : Prop := w.ownsMap Try.prog 3 (plainElem (H := Unit) Try.prog 4) M n (goneD E i)
abbrev RanG (w : World) (M it n : Nat) (E : List Int) (i : Nat) (left : Lit → Bool) (cnt : Nat) : Prop := w.ranges Try.prog 3 (plainElem (H := Unit) Try.prog 4) M it n (goneD E i) left cnt
/-- a block that is neither queue's nor a row's -/
structure Far2 (w0 : World) (q p : Nat) (b c : Option Nat) (L : Nat) : Prop where
  base : w0.heap.size ≤ L
  q : q ≠ L
  p : p ≠ L
  b : b ≠ some L
  c : c ≠ some L
section
variable {w0 w w' : World} {B q p : Nat} {b c : Option Nat} {h k : List It}
theorem Two.apart (t : Two w0 w B q p b c h k) {L : Nat} {r : Option Nat} (kp : Kp w w' L r) (hr : r = none ∨ r = some L) (f : Far2 w0 q p b c L) : Two w0 w' B q p b c h k := by
  have hk : ∀ g, g ≠ L → some g ≠ r := by
    intro g hg e
    rcases hr with rfl | rfl
    · cases e
    · injection e with e; exact hg e
  have hb : Below w0.heap.size w0 w' := t.mq.bel.trans (kp.below f.base (by
    intro g e
    rcases hr with rfl | rfl
    · cases e
    · injection e with e; rw [← e]; exact f.base) t.mq.bel.size)
  exact ⟨t.mq.kept kp f.q (hk _ f.q) (fun g e => ⟨fun e2 => f.b (by rw [e, e2]), hk _ (fun e2 => f.b (by rw [e, e2]))⟩) hb, t.mp.kept kp f.p (hk _ f.p) (fun g e => ⟨fun e2 => f.c (by rw [e, e2]), hk _ (fun e2 => f.c (by rw [e, e2]))⟩) hb, t.ne, t.ap⟩
theorem Two.fresh (t : Two w0 w B q p b c h k) {L : Nat} (hL : w.heap.size ≤ L) : Far2 w0 q p b c L := by
  have h1 := t.mq.at_.hB
  have h2 := t.mq.at_.hq
  have h3 := t.mp.at_.hq
  have h4 := t.mq.bel.size
  refine ⟨by omega, by omega, by omega, fun e => ?_, fun e => ?_⟩
  · have := t.mq.row_lt _ e; omega
  · have := t.mp.row_lt _ e; omega
end
theorem Two.newM (w0 w : World) (hb : Below w0.heap.size w0 w) : Two w0 (((w.alloc (.cells #[.slice none 0 0] 27)).alloc (.cells #[.slice none 0 0] 27)).alloc (.map #[] 0)) (w.heap.size + 1 + 1 + 1) w.heap.size (w.heap.size + 1) none none [] [] := by
  have h0 := hb.size
  have h1 : Below w0.heap.size w0 (((w.alloc (.cells #[.slice none 0 0] 27)).alloc (.cells #[.slice none 0 0] 27)).alloc (.map #[] 0)) := ((hb.alloc hb.size _).alloc (by simp; omega) _).alloc (by simp; omega) _
  refine ⟨⟨⟨by omega, by simp, _, ((Blk.new _ _ _).alloc _).alloc _, World.ownsRow_nil _ _ _ _, rfl⟩, ok_nil, h0, (fun g e => by cases e), h1⟩, ⟨⟨by omega, by simp, _, ?_, World.ownsRow_nil _ _ _ _, rfl⟩, ok_nil, by omega, (fun g e => by cases e), h1⟩, by omega, (fun g e => by cases e)⟩
  have := (Blk.new (w.alloc (.cells #[.slice none 0 0] 27)) 27 #[.slice none 0 0]).alloc (.map #[] 0)
  simpa using this
theorem drop_is (B q : Nat) (b : Option Nat) (h : List It) (x : It) (s : Int) (w : World) (ha : QAt w B q b h) (ho : Heap.Ok lt h) (hl : h.length ≤ 1000) (hx : x ∈ h) (hn : (h.map It.stamp).Nodup) (hs : x.stamp = s) :
    Calls Try.prog 11 #[.pointer (some ⟨q, 0, none⟩), .int .i64 s] w fun e w' => e = .returned (.bool true) ∧ ∃ h', (x :: h').Perm h ∧ Took w w' B q b h' := by
  obtain ⟨m, hm, em⟩ := Heap.mem_g h x hx
  have := drop_yes B q b h s m w ha ho hl hm (by rw [em]; exact hs) (fun j hj e => by
    have h1 := List.pairwise_iff_getElem.1 hn j m (by simp; omega) (by simpa using hm) hj
    rw [List.getElem_map, List.getElem_map, ← Heap.g_get h j (by omega), ← Heap.g_get h m hm, em, e] at h1
    exact h1 hs.symm)
  rw [em] at this
  exact this
theorem drop_isnt (B q : Nat) (b : Option Nat) (h : List It) (s : Int) (w : World) (ha : QAt w B q b h) (hl : h.length ≤ 1000) (hs : ∀ x ∈ h, x.stamp ≠ s) :
    Calls Try.prog 11 #[.pointer (some ⟨q, 0, none⟩), .int .i64 s] w fun e w' => e = .returned (.bool false) ∧ Below w.heap.size w w' := by
  rcases Nat.eq_zero_or_pos h.length with h0 | h0
  · obtain rfl := List.length_eq_zero_iff.1 h0
    exact drop_empty B q b s w ha
  · exact drop_no B q b h s w ha h0 hl (fun j hj => hs _ (g_mem hj))
theorem goneD_is (E : List Int) (n2 : Nat) (hl : E.length = n2) (x : Int) : (goneD E n2).atKey (.int .i64 x) (.lit (.bool false)) = .lit (.bool (decide (x ∈ E))) := by
  rw [goneD_at, List.take_of_length_le (by omega)]
theorem Two.map_q {w0 w w' : World} {q n2 : Nat} {E : List Int} {b c : Option Nat} {h k : List It} (t : Two w0 w (q + 1 + 1 + 1) q (q + 1) b c h k) (o : OwnG w (q + 1 + 1) n2 E n2) (kp : Kp w w' q b) : OwnG w' (q + 1 + 1) n2 E n2 :=
  ownsMap_kp o kp (by omega) (fun e => by have := t.mq.row _ e.symm; omega)
theorem Two.map_p {w0 w w' : World} {q n2 : Nat} {E : List Int} {b c : Option Nat} {h k : List It} (t : Two w0 w (q + 1 + 1 + 1) q (q + 1) b c h k) (o : OwnG w (q + 1 + 1) n2 E n2) (kp : Kp w w' (q + 1) c) : OwnG w' (q + 1 + 1) n2 E n2 :=
  ownsMap_kp o kp (by omega) (fun e => by have := t.mp.row _ e.symm; omega)
structure D1 (w0 : World) (q : Nat) (E : List Int) (n : Nat) (v : Value) (m : Nat) (wr : World) : Prop where
  v : v = .int .i64 ((n - m : Nat) : Int)
  le : m ≤ n
  two : Two w0 wr (q + 1 + 1 + 1) q (q + 1) none none [] []
  own : OwnG wr (q + 1 + 1) (n - m) E (n - m)
structure D2 (w0 : World) (q : Nat) (D E : List Int) (n n2 : Nat) (v : Value) (m : Nat) (b c : Option Nat) (h k : List It) (wr : World) : Prop where
  v : v = .int .i64 ((n - m : Nat) : Int)
  le : m ≤ n
  two : Two w0 wr (q + 1 + 1 + 1) q (q + 1) b c h k
  own : OwnG wr (q + 1 + 1) n2 E n2
  ph : h.Perm (its D (n - m))
  pk : k.Perm ((its D (n - m)).filter fun x => decide (x.stamp ∉ E))
structure D3 (w0 : World) (q it : Nat) (D E : List Int) (n n2 : Nat) (b c : Option Nat) (k : List It) (m : Nat) (left : Lit → Bool) (h : List It) (wr : World) : Prop where
  two : Two w0 wr (q + 1 + 1 + 1) q (q + 1) b c h k
  ran : RanG wr (q + 1 + 1) it n2 E n2 left m
  ph : h.Perm ((its D n).filter fun x => decide (x.stamp ∉ E) || left (.int .i64 x.stamp))
structure D4 (w0 : World) (q : Nat) (b c : Option Nat) (D : List Int) (n : Nat) (m : Nat) (h k : List It) (wr : World) : Prop where
  two : Two w0 wr (q + 1 + 1 + 1) q (q + 1) b c h k
  len : h.length = m
  few : m ≤ 100
  perm : h.Perm k
  mem : ∀ y ∈ h, ∃ j, j < n ∧ y = itOf D j
set_option maxRecDepth 100000 in
set_option maxHeartbeats 16000000 in
theorem drops_main (A : Option Addr) (n cap : Nat) (A2 : Option Addr) (n2 cap2 : Nat) (D E : List Int) (now : Int) (w : World) (hR : Reads w w.heap.size 1 A n (ints D)) (hR2 : Reads w w.heap.size 1 A2 n2 (ints E)) (hn : n ≤ 100) (hn2 : n2 ≤ 100) (hE : ∀ x ∈ E, (Lit.int .i64 x).wf = true) :
    Calls Try.prog 5 #[.slice A n cap, .slice A2 n2 cap2, .int .i64 now] w fun e w' => e = .returned (.bool true) ∧ Below w.heap.size w w' := by
  have hnn : (n : Int) ≤ 100 := by omega
  have hnn2 : (n2 : Int) ≤ 100 := by omega
  have hEl : E.length = n2 := by have := hR2.1; simp at this; exact this
  have HR := Lib.hid (And.intro hR (And.intro hR2 (And.intro hE hEl)))
  clear hR hR2 hE hEl
  have hmm := @run_makeMap Try.prog
  go_enter Try.func5, Try.ntmps5
  go_wp2_with fail
  refine (alive_any _).mono ?_
  rintro e w1 ⟨rfl, hb1⟩
  have T0 := Two.newM w w1 hb1
  have O0 : OwnG (((w1.alloc (.cells #[.slice none 0 0] 27)).alloc (.cells #[.slice none 0 0] 27)).alloc (.map #[] 0)) (w1.heap.size + 1 + 1) 0 E 0 := by
    have := World.ownsMap_made ((w1.alloc (.cells #[.slice none 0 0] 27)).alloc (.cells #[.slice none 0 0] 27)) Try.prog 3 (plainElem (H := Unit) Try.prog 4)
    simpa [OwnG, goneD, keys, Maps.setOf] using this
  go_wp2_with fail
  clear hmm
  generalize (((w1.alloc (.cells #[.slice none 0 0] 27)).alloc (.cells #[.slice none 0 0] 27)).alloc (.map #[] 0)) = W at *
  generalize w1.heap.size = q at *
  go_loopg [36] n2 (fun m v wr => D1 w q E n2 v m wr)
  case atStart => exact ⟨by rw [Nat.sub_self]; rfl, Nat.le_refl _, T0, by rw [Nat.sub_self]; exact O0⟩
  case round =>
    obtain ⟨rfl, hle, ht, hown⟩ := hrel
    cases gk with
    | succ m =>
      obtain ⟨i, hi⟩ : ∃ i : Nat, n2 - (m + 1) = i := ⟨_, rfl⟩
      rw [hi] at hown ⊢
      have hin : i < n2 := by omega
      obtain ⟨ad, rfl, hc⟩ := ints_at (HR.out.2.1.below ht.mq.bel) hin
      have i2 : (i : Int) < (n2 : Int) := by omega
      have hil : i < E.length := by have := HR.out.2.2.2; omega
      have hwf : (Lit.int .i64 (E.getD i 0)).wf = true := by
        refine HR.out.2.2.1 _ ?_
        rw [List.getD_eq_getElem?_getD, List.getElem?_eq_getElem hil]
        exact List.getElem_mem hil
      obtain ⟨d, hd⟩ : ∃ d, E.getD i 0 = d := ⟨_, rfl⟩
      rw [hd] at hc hwf
      have hmax : i < maxLen := by unfold maxLen; omega
      have HM := Lib.hid (And.intro ht (And.intro hown (And.intro hi (And.intro hle (And.intro hd hil)))))
      clear ht hown hi hle hd T0 O0 hil
      go_wp2_with (first | (at_mapUpdate; refine wpList_mapUpdate_own _ rfl _ _ _ 40 rfl 3 4 law3 Try.underlying40 _ (q + 1 + 1) i _ rfl HM.out.2.1 hmax _ _ _ rfl rfl (Maps.keyOf_int_mk Try.underlying3 hwf) _ [] (plainElem_bool Try.underlying4 true) ?_; intro w2 hown2 hgrow2) | fail)
      go_roundg m
      case measure => omega
      case rel =>
        obtain ⟨m1, m2, m3, m4, m5, m6⟩ := HM.out
        have hk : n2 - m = i + 1 := by omega
        refine ⟨by rw [hk]; go_num, by omega, m1.apart (L := q + 1 + 1) (Kp.of_grown hgrow2) (.inr rfl) ?_, ?_⟩
        · have := m1.mq.base
          exact ⟨by omega, by omega, by omega, by simp, by simp⟩
        · rw [hk]
          unfold OwnG
          rw [goneD_succ E i m6, m5]
          exact hown2
    | zero =>
      rw [Nat.sub_zero] at hown ⊢
      have HM := Lib.hid (And.intro ht hown)
      clear ht hown hle T0 O0
      go_wp2_with fail
      go_loopg [45] n (fun m v wr => ∃ b c h k, D2 w q D E n n2 v m b c h k wr)
      case atStart => exact ⟨none, none, [], [], by rw [Nat.sub_self]; rfl, Nat.le_refl _, HM.out.1, HM.out.2, by rw [Nat.sub_self]; exact List.Perm.refl _, by rw [Nat.sub_self]; exact List.Perm.refl _⟩
      case round =>
        obtain ⟨b, c, h, k, rfl, hle, ht, hown, hph, hpk⟩ := hrel
        clear HM
        cases gk with
        | succ m =>
          obtain ⟨i, hi⟩ : ∃ i : Nat, n - (m + 1) = i := ⟨_, rfl⟩
          rw [hi] at hph hpk ⊢
          have hin : i < n := by omega
          obtain ⟨ad, rfl, hc⟩ := ints_at (HR.out.1.below ht.mq.bel) hin
          have i2 : (i : Int) < (n : Int) := by omega
          obtain ⟨d, hd⟩ : ∃ d, D.getD i 0 = d := ⟨_, rfl⟩
          rw [hd] at hc
          have hwf : (Lit.int .i64 (i : Int)).wf = true := WalkArith.wf_i64 (by omega)
          have hkl : k.length ≤ 900 := by
            have h1 := hpk.length_eq
            have h2 := List.length_filter_le (fun x : It => decide (x.stamp ∉ E)) (its D i)
            rw [its_length] at h2
            omega
          have hhl : h.length ≤ 900 := by rw [hph.length_eq, its_length]; omega
          have HM := Lib.hid (And.intro ht (And.intro hown (And.intro hi (And.intro hle (And.intro hd (And.intro hph (And.intro hpk (And.intro hkl hhl))))))))
          clear ht hown hi hle hd hph hpk hkl hhl
          go_wp2_with fail
          refine (put_any (q + 1 + 1 + 1) q b h ⟨d, i, 0, 0⟩ _ HM.out.1.mq.at_ HM.out.1.mq.ok HM.out.2.2.2.2.2.2.2.2).mono ?_
          rintro e w2 ⟨rfl, h2, p2, l2⟩
          obtain ⟨b2, T2⟩ := HM.out.1.left l2
          have O2' := HM.out.1.map_q HM.out.2.1 l2.kp
          have P2 : h2.Perm (its D (i + 1)) := by
            obtain ⟨_, _, _, _, m5, m6, _⟩ := HM.out
            rw [its_succ, m5]
            exact p2.trans ((m6.cons _).trans (List.perm_append_singleton _ _).symm)
          have H2 := Lib.hid (And.intro T2 (And.intro O2' P2))
          clear T2 O2' P2 p2 l2 hc
          by_cases hg : (i : Int) ∈ E
          · have hga : (goneD E n2).atKey (.int .i64 (i : Int)) (.lit (.bool false)) = .lit (.bool true) := by rw [goneD_is E n2 HR.out.2.2.2, decide_eq_true hg]
            go_wp2_with (first | (at_lookup; refine wpList_lookup_bool _ rfl _ _ 40 rfl 3 4 law3 Try.underlying40 Try.underlying4 (zero4 _) (q + 1 + 1) n2 _ rfl H2.out.2.1 _ _ rfl (Maps.keyOf_int_mk Try.underlying3 hwf) true hga ?_) | fail)
            go_roundg m
            case measure => omega
            case rel =>
              obtain ⟨m1, m2, m3, m4, m5, m6, m7, _⟩ := HM.out
              have hk : n - m = i + 1 := by omega
              refine ⟨b2, c, h2, k, by rw [hk]; go_num, by omega, H2.out.1, H2.out.2.1, by rw [hk]; exact H2.out.2.2, ?_⟩
              rw [hk, its_succ, List.filter_append, List.filter_cons_of_neg (by simpa using hg)]
              simpa using m7
          · have hga : (goneD E n2).atKey (.int .i64 (i : Int)) (.lit (.bool false)) = .lit (.bool false) := by rw [goneD_is E n2 HR.out.2.2.2, decide_eq_false hg]
            go_wp2_with (first | (at_lookup; refine wpList_lookup_bool _ rfl _ _ 40 rfl 3 4 law3 Try.underlying40 Try.underlying4 (zero4 _) (q + 1 + 1) n2 _ rfl H2.out.2.1 _ _ rfl (Maps.keyOf_int_mk Try.underlying3 hwf) false hga ?_) | fail)
            refine (put_any (q + 1 + 1 + 1) (q + 1) c k ⟨d, i, 0, 0⟩ _ H2.out.1.mp.at_ H2.out.1.mp.ok HM.out.2.2.2.2.2.2.2.1).mono ?_
            rintro e w3 ⟨rfl, k3, p3, l3⟩
            obtain ⟨c3, T3⟩ := H2.out.1.swap.left l3
            have O3 := H2.out.1.map_p H2.out.2.1 l3.kp
            have H3 := Lib.hid (And.intro T3.swap (And.intro O3 p3))
            clear T3 O3 p3 l3
            go_wp2
            go_roundg m
            case measure => omega
            case rel =>
              obtain ⟨m1, m2, m3, m4, m5, m6, m7, _⟩ := HM.out
              have hk : n - m = i + 1 := by omega
              refine ⟨b2, c3, h2, k3, by rw [hk]; go_num, by omega, H3.out.1, H3.out.2.1, by rw [hk]; exact H2.out.2.2, ?_⟩
              rw [hk, its_succ, List.filter_append, List.filter_cons_of_pos (by simpa using hg), m5]
              exact H3.out.2.2.trans ((m7.cons _).trans (List.perm_append_singleton _ _).symm)
        | zero =>
          rw [Nat.sub_zero] at hph hpk ⊢
          have HM := Lib.hid (And.intro ht (And.intro hown (And.intro hph hpk)))
          clear ht hown hle hph hpk
          go_wp2_with (first | (at_range; refine wpList_range_own _ rfl _ 40 rfl 3 4 law3 Try.underlying40 _ (q + 1 + 1) n2 _ rfl HM.out.2.1 ?_; intro w4 hrg4 hg4 hs4) | fail)
          go_frame
          have T4 := HM.out.1.below (w' := w4) ⟨hg4.os, hg4.tape, hg4.output, hg4.size, fun i hi => hg4.block i hi (by simp)⟩
          have F4 := HM.out.1.fresh (Nat.le_refl _)
          have hMi : ¬ q + 1 + 1 = wr.heap.size := by
            have := HM.out.1.mq.at_.hB
            omega
          have H4 := Lib.hid (And.intro T4 (And.intro F4 (And.intro hMi hrg4)))
          clear T4 F4 hMi hrg4 hg4 hs4
          generalize wr.heap.size = it at *
          go_loopg [] (Maps.size (goneD E n2)) (fun m wr2 => ∃ left h, D3 w q it D E n n2 b c k m left h wr2)
          case atStart =>
            obtain ⟨t1, t2, t3, t4⟩ := H4.out
            refine ⟨_, h, t1, t4, ?_⟩
            rw [List.filter_eq_self.2]
            · exact HM.out.2.2.1
            · intro x _
              have e : (E.take n2) = E := List.take_of_length_le (by have := HR.out.2.2.2; omega)
              rw [goneD_has, e]
              by_cases h1 : x.stamp ∈ E <;> simp [h1]
          case round =>
            obtain ⟨left, h, ht, hran, hph⟩ := hrel
            have hk4 := HM.out.2.2.2
            have HK := Lib.hid hk4
            have hF := H4.out.2.1
            have hMi := H4.out.2.2.1
            have HF := Lib.hid (And.intro hF hMi)
            clear HM H4 hk4 hF hMi
            have hhl : h.length ≤ 100 := by
              have h1 := hph.length_eq
              have h2 := List.length_filter_le (fun x : It => decide (x.stamp ∉ E) || left (.int .i64 x.stamp)) (its D n)
              rw [its_length] at h2
              omega
            have HM := Lib.hid (And.intro ht (And.intro hph (And.intro hran hhl)))
            clear ht hph hran hhl
            go_wp2_with (first | (at_next; refine wpList_next_ib _ rfl _ rfl 3 4 .i64 law3 Try.underlying3 Try.underlying4 (q + 1 + 1) it n2 _ _ _ rfl HM.out.2.2.1 ?_ ?_) | fail)
            · intro _ hl0
              have hpp : h.Perm k := by
                refine (HM.out.2.1.trans ?_).trans HK.out.symm
                rw [List.filter_congr (q := fun x => decide (x.stamp ∉ E))]
                intro x _
                rw [hl0, Bool.or_false]
              have HP := Lib.hid hpp
              clear hl0 hpp
              go_wp2_with fail
              go_loopg [] h.length (fun m wr3 => ∃ h k, D4 w q b c D n m h k wr3)
              case atStart => exact ⟨h, k, HM.out.1, rfl, HM.out.2.2.2, HP.out, fun y hy => mem_its (List.mem_filter.1 (HM.out.2.1.mem_iff.1 hy)).1⟩
              case round =>
                obtain ⟨h, k, ht, hlen, hfew, hperm, hmem⟩ := hrel
                clear HM HK HP
                have HF := HF
                by_cases hs : ∀ x ∈ h, now < x.due
                · have hs2 : ∀ x ∈ k, now < x.due := fun x hx => hs x (hperm.mem_iff.2 hx)
                  obtain ⟨L, hL⟩ : ∃ L, h.length = L := ⟨_, rfl⟩
                  have hL2 : k.length = L := by rw [← hperm.length_eq]; exact hL
                  have hLL : ((L : Int) == (L : Int)) = true := by simp
                  have HM := Lib.hid (And.intro ht (And.intro hs (And.intro hs2 (And.intro hL hL2))))
                  clear ht hs hs2 hL hL2 hlen hfew hperm hmem
                  go_wp2_with fail
                  refine (pop_none (q + 1 + 1 + 1) q b h now _ HM.out.1.mq.at_ HM.out.2.1).mono ?_
                  rintro e w6 ⟨rfl, hb6⟩
                  have T6 := (HM.out.1.below hb6).alloc ZC
                  have X6 : Blk (w6.alloc ZC) w6.heap.size 34 #[.int .i64 0, .int .i64 0, .int .u64 0, .int .u64 0] := Blk.new _ _ _
                  have H6 := Lib.hid (And.intro T6 X6)
                  clear T6 X6 hb6
                  go_wp2_with fail
                  refine (pop_none (q + 1 + 1 + 1) (q + 1) c k now _ H6.out.1.mp.at_ HM.out.2.2.1).mono ?_
                  rintro e w7 ⟨rfl, hb7⟩
                  have T7 := (H6.out.1.below hb7).alloc ZC
                  have X7 := (H6.out.2.below hb7 H6.out.2.lt).alloc ZC
                  have Y7 : Blk (w7.alloc ZC) w7.heap.size 34 #[.int .i64 0, .int .i64 0, .int .u64 0, .int .u64 0] := Blk.new _ _ _
                  obtain ⟨x0, x1, x2, x3⟩ := item_cells X7
                  obtain ⟨y0, y1, y2, y3⟩ := item_cells Y7
                  have H7 := Lib.hid T7
                  clear T7 X7 Y7 hb7
                  go_wp2_with fail
                  refine (len_is (q + 1 + 1 + 1) q b h L HM.out.2.2.2.1 _ H7.out.mq.at_).mono ?_
                  rintro e w8 ⟨rfl, rfl⟩
                  go_wp2_with fail
                  refine (len_is (q + 1 + 1 + 1) (q + 1) c k L HM.out.2.2.2.2 _ H7.out.mp.at_).mono ?_
                  rintro e w8 ⟨rfl, rfl⟩
                  go_wp2
                  go_ret
                  exact ⟨rfl, H7.out.mq.bel⟩
                · obtain ⟨h0, hdue⟩ := head_due ht.mq.ok hs
                  obtain ⟨m, hm⟩ : ∃ m, h.length = m + 1 := ⟨h.length - 1, by omega⟩
                  obtain ⟨j, hjn, hxj⟩ := hmem _ (g_mem h0)
                  have hyj : Heap.g k 0 = itOf D j := by rw [← same_first ht.mq.ok ht.mp.ok hperm hmem h0]; exact hxj
                  have hkm : k.length = m + 1 := by rw [← hperm.length_eq]; exact hm
                  obtain ⟨d, hd⟩ : ∃ d, D.getD j 0 = d := ⟨_, rfl⟩
                  rw [hxj] at hdue
                  unfold itOf at hxj hyj
                  rw [hd] at hxj hyj
                  have hnd : ¬ now < d := by
                    have : d ≤ now := by rw [← hd]; exact hdue
                    omega
                  have hm9 : m ≤ 900 := by omega
                  have HM := Lib.hid (And.intro ht (And.intro hm (And.intro hkm (And.intro hxj (And.intro hyj (And.intro hperm (And.intro hmem (And.intro hlen hfew))))))))
                  have HN := Lib.hid (And.intro hnd hm9)
                  clear ht hm hkm hxj hyj hperm hmem hlen hfew hs h0 hdue hd hm9 hnd
                  go_wp2_with fail
                  refine (pop_yes (q + 1 + 1 + 1) q b h ⟨d, j, 0, 0⟩ m now _ HM.out.1.mq.at_ HM.out.1.mq.ok HM.out.2.1 HN.out.2 HM.out.2.2.2.1 (by have := HN.out.1; show ¬ now < d; omega)).mono ?_
                  rintro e w6 ⟨rfl, h6, p6, t6⟩
                  have T6 := (HM.out.1.took t6).alloc (.cells #[.int .i64 d, .int .i64 j, .int .u64 0, .int .u64 0] 34)
                  have X6 : Blk (w6.alloc (.cells #[.int .i64 d, .int .i64 j, .int .u64 0, .int .u64 0] 34)) w6.heap.size 34 #[.int .i64 d, .int .i64 j, .int .u64 0, .int .u64 0] := Blk.new _ _ _
                  have F6 := (HM.out.1.took t6).fresh (Nat.le_refl _)
                  have H6 := Lib.hid (And.intro T6 (And.intro X6 (And.intro F6 p6)))
                  clear T6 X6 F6 p6 t6
                  go_wp2_with fail
                  refine (pop_yes (q + 1 + 1 + 1) (q + 1) c k ⟨d, j, 0, 0⟩ m now _ H6.out.1.mp.at_ H6.out.1.mp.ok HM.out.2.2.1 HN.out.2 HM.out.2.2.2.2.1 (by have := HN.out.1; show ¬ now < d; omega)).mono ?_
                  rintro e w7 ⟨rfl, k7, p7, t7⟩
                  have T7 := (H6.out.1.swap.took t7).swap.alloc (.cells #[.int .i64 d, .int .i64 j, .int .u64 0, .int .u64 0] 34)
                  have X7 := (H6.out.2.1.kp t7.kp H6.out.2.2.1.p.symm H6.out.2.2.1.c.symm).alloc (.cells #[.int .i64 d, .int .i64 j, .int .u64 0, .int .u64 0] 34)
                  have Y7 : Blk (w7.alloc (.cells #[.int .i64 d, .int .i64 j, .int .u64 0, .int .u64 0] 34)) w7.heap.size 34 #[.int .i64 d, .int .i64 j, .int .u64 0, .int .u64 0] := Blk.new _ _ _
                  obtain ⟨x0, x1, x2, x3⟩ := item_cells X7
                  obtain ⟨y0, y1, y2, y3⟩ := item_cells Y7
                  have H7 := Lib.hid (And.intro T7 p7)
                  clear T7 X7 Y7 p7 t7
                  have hdd : (d != d) = false := by simp
                  go_wp2
                  go_roundg m
                  case measure => have := HM.out.2.1; have := HM.out.2.2.2.2.2.2.2.1; omega
                  case rel =>
                    obtain ⟨m1, m2, m3, m4, m5, m6, m7, m8, m9⟩ := HM.out
                    have hl6 := H6.out.2.2.2.length_eq
                    rw [List.length_cons] at hl6
                    exact ⟨h6, k7, H7.out.1, by omega, by omega, ((H6.out.2.2.2.trans m6).trans H7.out.2.symm).cons_inv, fun y hy => m7 y (H6.out.2.2.2.mem_iff.1 (List.mem_cons_of_mem _ hy))⟩
            · intro d c' w5 cnt5 hwx hlx hat hrg5 hlt hg5 hs5 hen
              have T5 := HM.out.1.apart (Kp.of_grown hg5) (.inr rfl) HF.out.1
              have hdE : d ∈ E := by
                have h1 := hat
                rw [goneD_has] at h1
                have := of_decide_eq_true h1
                exact List.mem_of_mem_take this
              have hnod : (h.map It.stamp).Nodup := (HM.out.2.1.map It.stamp).nodup_iff.2 (List.Nodup.sublist ((List.filter_sublist ..).map It.stamp) (stamps_its D n))
              have H5 := Lib.hid (And.intro T5 (And.intro hrg5 (And.intro hdE (And.intro hnod (And.intro hlx hlt)))))
              clear T5 hrg5 hdE hnod hlx hlt hat hg5 hs5
              by_cases hd : 0 ≤ d ∧ d < (n : Int)
              · obtain ⟨j, rfl⟩ := Int.eq_ofNat_of_zero_le hd.1
                have hjn : j < n := by omega
                have hd0 := hd.1
                have hd1 := hd.2
                have hmem : itOf D j ∈ its D n := List.mem_map_of_mem (f := itOf D) (List.mem_range.2 hjn)
                have hal : (decide ((itOf D j).stamp ∉ E) || left (.int .i64 (itOf D j).stamp)) = true := by
                  have := H5.out.2.2.2.2.1
                  simp [this]
                have hmh : itOf D j ∈ h := HM.out.2.1.mem_iff.2 (List.mem_filter.2 ⟨hmem, hal⟩)
                have HJ := Lib.hid (And.intro hmem (And.intro hal hmh))
                clear hmem hal hmh hd
                go_wp2_with fail
                refine (drop_is (q + 1 + 1 + 1) q b h (itOf D j) j _ H5.out.1.mq.at_ H5.out.1.mq.ok (by have := HM.out.2.2.2; omega) HJ.out.2.2 H5.out.2.2.2.1 rfl).mono ?_
                rintro e w6 ⟨rfl, h6, p6, t6⟩
                have H6 := Lib.hid (And.intro p6 t6)
                clear p6 t6
                go_wp2
                go_roundg cnt5
                case measure => exact H5.out.2.2.2.2.2
                case rel =>
                  obtain ⟨p6, t6⟩ := H6.out
                  obtain ⟨T5, hrg5, hdE, hnod, hlx, hlt⟩ := H5.out
                  refine ⟨_, h6, T5.took t6, ranges_kp hrg5 t6.kp (by omega) (fun e => by have := T5.mq.row _ e.symm; omega) HF.out.1.q.symm HF.out.1.b.symm, ?_⟩
                  have h1 := (p6.trans HM.out.2.1).trans (filter_out (stamps_its D n) HJ.out.1 HJ.out.2.1)
                  refine h1.cons_inv.trans ?_
                  rw [List.filter_congr]
                  intro y _
                  by_cases hy : y.stamp = (j : Int)
                  · simp [hy, Lit.sameKey, hdE]
                  · simp [hy, Lit.sameKey]
              · have hno : ∀ x ∈ h, x.stamp ≠ d := by
                  intro x hx e
                  obtain ⟨j, hj, rfl⟩ := mem_its (List.mem_filter.1 (HM.out.2.1.mem_iff.1 hx)).1
                  exact hd ⟨by rw [← e]; exact Int.natCast_nonneg j, by rw [← e]; show (j : Int) < n; omega⟩
                have HN := Lib.hid hno
                clear hno
                have hfin : ∀ w6, Below w5.heap.size w5 w6 → D3 w q it D E n n2 b c k cnt5 (fun z => left z && !z.sameKey (.int .i64 d)) h w6 := by
                  intro w6 hb6
                  obtain ⟨T5, hrg5, hdE, hnod, hlx, hlt⟩ := H5.out
                  refine ⟨T5.below hb6, ranges_kp hrg5 (Kp.of_below (q := q) (r := b) hb6) (by omega) (fun e => by have := T5.mq.row _ e.symm; omega) HF.out.1.q.symm HF.out.1.b.symm, HM.out.2.1.trans ?_⟩
                  rw [List.filter_congr]
                  intro y hy
                  have h9 : y.stamp ≠ d := by
                    obtain ⟨j, hj, rfl⟩ := mem_its hy
                    intro e
                    exact hd ⟨by rw [← e]; exact Int.natCast_nonneg j, by rw [← e]; show (j : Int) < n; omega⟩
                  simp [h9, Lit.sameKey]
                have HFin := Lib.hid hfin
                clear hfin
                rcases Int.lt_or_le d 0 with hd0 | hd0
                · clear hd
                  go_wp2_with fail
                  refine (drop_isnt (q + 1 + 1 + 1) q b h d _ H5.out.1.mq.at_ (by have := HM.out.2.2.2; omega) HN.out).mono ?_
                  rintro e w6 ⟨rfl, hb6⟩
                  go_wp2
                  go_roundg cnt5
                  case measure => exact H5.out.2.2.2.2.2
                  case rel => exact ⟨_, h, HFin.out _ hb6⟩
                · have hd1 : (n : Int) ≤ d := by omega
                  clear hd
                  go_wp2_with fail
                  refine (drop_isnt (q + 1 + 1 + 1) q b h d _ H5.out.1.mq.at_ (by have := HM.out.2.2.2; omega) HN.out).mono ?_
                  rintro e w6 ⟨rfl, hb6⟩
                  go_wp2
                  go_roundg cnt5
                  case measure => exact H5.out.2.2.2.2.2
                  case rel => exact ⟨_, h, HFin.out _ hb6⟩
set_option maxRecDepth 100000 in
theorem drops_a (A : Option Addr) (n cap : Nat) (A2 : Option Addr) (n2 cap2 : Nat) (now : Int) (w : World) (hn : 100 < n) :
    Calls Try.prog 5 #[.slice A n cap, .slice A2 n2 cap2, .int .i64 now] w fun e w' => e = .returned (.bool true) ∧ Below w.heap.size w w' := by
  have hnn : (100 : Int) < (n : Int) := by omega
  go_enter Try.func5, Try.ntmps5
  go_wp2_with fail
  refine (alive_any _).mono ?_
  rintro e w1 ⟨rfl, hb1⟩
  go_wp2
  go_ret
  exact ⟨rfl, hb1⟩
set_option maxRecDepth 100000 in
theorem drops_b (A : Option Addr) (n cap : Nat) (A2 : Option Addr) (n2 cap2 : Nat) (now : Int) (w : World) (hn : n ≤ 100) (hn2 : 100 < n2) :
    Calls Try.prog 5 #[.slice A n cap, .slice A2 n2 cap2, .int .i64 now] w fun e w' => e = .returned (.bool true) ∧ Below w.heap.size w w' := by
  have hnn : (n : Int) ≤ 100 := by omega
  have hnn2 : (100 : Int) < (n2 : Int) := by omega
  go_enter Try.func5, Try.ntmps5
  go_wp2_with fail
  refine (alive_any _).mono ?_
  rintro e w1 ⟨rfl, hb1⟩
  go_wp2
  go_ret
  exact ⟨rfl, hb1⟩
theorem drops_any (A : Option Addr) (n cap : Nat) (A2 : Option Addr) (n2 cap2 : Nat) (D E : List Int) (now : Int) (w : World) (hR : Reads w w.heap.size 1 A n (ints D)) (hR2 : Reads w w.heap.size 1 A2 n2 (ints E)) (hE : ∀ x ∈ E, (Lit.int .i64 x).wf = true) :
    Calls Try.prog 5 #[.slice A n cap, .slice A2 n2 cap2, .int .i64 now] w fun e w' => e = .returned (.bool true) ∧ Below w.heap.size w w' := by
  by_cases hn : n ≤ 100
  · by_cases hn2 : n2 ≤ 100
    · exact drops_main A n cap A2 n2 cap2 D E now w hR hR2 hn hn2 hE
    · exact drops_b A n cap A2 n2 cap2 now w hn (by omega)
  · exact drops_a A n cap A2 n2 cap2 now w (by omega)
end Go.Proofs.Ytmepipnledoinaa
