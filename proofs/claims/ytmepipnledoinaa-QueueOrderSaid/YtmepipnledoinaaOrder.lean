/- The walk of the law QueueOrder. Conditions: those of its row. -/
import Derived.Test.YtmepipnledoinaaTwo
import Derived.BigQuiet
import Derived.Deep.QuietTactic
namespace Go.Proofs.Ytmepipnledoinaa
open Go.RowKit Go.BigFrame
theorem Try.info4 : (Try.prog.info? 4).map (fun i => (i.zero, i.size, i.bytes)) = some (some (.bool false), 1, 1) := by kernel_rfl
structure O1 (w0 : World) (B q p : Nat) (D : List Int) (n kk : Nat) (v : Value) (m : Nat) (b c : Option Nat) (h k : List It) (wr : World) : Prop where
  v : v = .int .i64 ((n - m : Nat) : Int)
  le : m ≤ n
  two : Two w0 wr B q p b c h k
  ph : h.Perm (its D (n - m))
  pk : k.Perm (rot D n kk (n - m))
/-- the blocks of last and of seen are neither queue's nor a row's -/
structure Far (w0 : World) (q p : Nat) (b c : Option Nat) (L : Nat) : Prop where
  base : w0.heap.size ≤ L
  q : q ≠ L
  p : p ≠ L
  b : b ≠ some L
  c : c ≠ some L
structure O2 (w0 : World) (B q p : Nat) (b c : Option Nat) (L S : Nat) (D : List Int) (n : Nat) (v : Value) (m : Nat) (h k : List It) (x : It) (bs : List Bool) (wr : World) : Prop where
  v : v = .int .i64 ((n - m : Nat) : Int)
  le : m ≤ n
  two : Two w0 wr B q p b c h k
  last : Blk wr L 34 #[.int .i64 x.due, .int .i64 x.stamp, .int .u64 x.hi, .int .u64 x.lo]
  seen : wr.ownsRow B 4 1 (.slice (some ⟨S, 0, none⟩) n n) n (bs.map Value.bool)
  len : h.length = m
  perm : h.Perm k
  nod : (h.map It.stamp).Nodup
  mem : ∀ y ∈ h, ∃ j, j < n ∧ y = itOf D j
  clean : ∀ j, itOf D j ∈ h → bs.getD j true = false
  after : m = n ∨ ∀ y ∈ h, lt y x = false
set_option maxRecDepth 100000 in
set_option maxHeartbeats 8000000 in
theorem order_main (A : Option Addr) (n cap : Nat) (D : List Int) (turn : Int) (w : World) (hR : Reads w w.heap.size 1 A n (ints D)) (hn : n ≤ 100) (hn0 : 0 < n) (hD : ∀ j, D.getD j 0 ≤ 9223372036854775807) :
    Calls Try.prog 3 #[.slice A n cap, .int .i64 turn] w fun e w' => e = .returned (.bool true) ∧ Below w.heap.size w w' := by
  have hn2 : (n : Int) ≤ 100 := by omega
  have hn3 : ((n : Int) == 0) = false := by simp; omega
  obtain ⟨kk, hkk, hturn⟩ := turn_is turn n hn0 hn
  have hk2 : (kk : Int) < (n : Int) := by omega
  obtain ⟨i0, hi0, hz0, hz1, hz2⟩ := info_parts Try.info4
  have HR := Lib.hid (And.intro hR (And.intro hkk hD))
  clear hR hkk hD
  go_enter Try.func3, Try.ntmps3
  go_wp2_with fail
  refine (alive_any _).mono ?_
  rintro e w1 ⟨rfl, hb1⟩
  have T0 := Two.new w w1 hb1
  go_wp2_with fail
  rw [hturn]
  generalize ((w1.alloc (.cells #[.slice none 0 0] 27)).alloc (.cells #[.slice none 0 0] 27)) = W at *
  generalize w1.heap.size = q at *
  go_loopg [40] n (fun m v wr => ∃ b c h k, O1 w (q + 1 + 1) q (q + 1) D n kk v m b c h k wr)
  case atStart => exact ⟨none, none, [], [], by rw [Nat.sub_self]; rfl, Nat.le_refl _, T0, by rw [Nat.sub_self]; exact List.Perm.refl _, by rw [Nat.sub_self]; exact List.Perm.refl _⟩
  case round =>
    obtain ⟨b, c, h, k, rfl, hle, ht, hph, hpk⟩ := hrel
    cases gk with
    | succ m =>
      obtain ⟨i, hi⟩ : ∃ i : Nat, n - (m + 1) = i := ⟨_, rfl⟩
      rw [hi] at hph hpk ⊢
      have hin : i < n := by omega
      obtain ⟨ad, rfl, hc⟩ := ints_at (HR.out.1.below ht.mq.bel) hin
      obtain ⟨d, hd⟩ : ∃ d, D.getD i 0 = d := ⟨_, rfl⟩
      rw [hd] at hc
      have i2 : (i : Int) < (n : Int) := by omega
      obtain ⟨j, hj⟩ : ∃ j : Nat, (i + kk) % n = j := ⟨_, rfl⟩
      have hjn : j < n := by rw [← hj]; exact Nat.mod_lt _ hn0
      have j2 : (j : Int) < (n : Int) := by omega
      have hjm : ((i : Int) + (kk : Int)).tmod (n : Int) = (j : Int) := by rw [Int.tmod_eq_emod_of_nonneg (by omega), ← hj, Int.natCast_emod, Int.natCast_add]
      obtain ⟨dj, hdj⟩ : ∃ d, D.getD j 0 = d := ⟨_, rfl⟩
      have HM := Lib.hid (And.intro ht (And.intro hph (And.intro hpk (And.intro hi (And.intro hle (And.intro hd (And.intro hj hdj)))))))
      clear ht hph hpk hi hle hd T0 hdj hj
      go_wp2_with fail
      refine (put_any (q + 1 + 1) q b h ⟨d, i, 0, 0⟩ _ HM.out.1.mq.at_ HM.out.1.mq.ok (by rw [HM.out.2.1.length_eq, its_length]; omega)).mono ?_
      rintro e w2 ⟨rfl, h2, p2, l2⟩
      obtain ⟨b2, T2⟩ := HM.out.1.left l2
      obtain ⟨ad2, ea, hc2⟩ := ints_at (HR.out.1.below T2.mq.bel) hjn
      injection ea with ea
      subst ea
      rw [HM.out.2.2.2.2.2.2.2] at hc2
      have HM2 := Lib.hid (And.intro T2 p2)
      clear T2 p2 l2 hc
      go_wp2_with fail
      refine (put_any (q + 1 + 1) (q + 1) c k ⟨dj, j, 0, 0⟩ _ HM2.out.1.mp.at_ HM2.out.1.mp.ok (by rw [HM.out.2.2.1.length_eq, rot_length]; omega)).mono ?_
      rintro e w3 ⟨rfl, k3, p3, l3⟩
      obtain ⟨c3, T3⟩ := HM2.out.1.swap.left l3
      have HM3 := Lib.hid (And.intro T3.swap p3)
      clear T3 p3 l3 hc2
      go_wp2
      go_roundg m
      case measure => omega
      case rel =>
        obtain ⟨m1, m2, m3, m4, m5, m6, m7, m8⟩ := HM.out
        have hk : n - m = i + 1 := by omega
        refine ⟨b2, c3, h2, k3, by rw [hk]; go_num, by omega, HM3.out.1, ?_, ?_⟩
        · rw [hk, its_succ, m6]; exact HM2.out.2.trans ((m2.cons _).trans (List.perm_append_singleton _ _).symm)
        · rw [hk, rot_succ, m7]
          unfold itOf
          rw [m8]
          exact HM3.out.2.trans ((m3.cons _).trans (List.perm_append_singleton _ _).symm)
    | zero =>
      rw [Nat.sub_zero] at hph hpk ⊢
      have hpp : h.Perm k := hph.trans ((hpk.trans (rot_perm D n kk HR.out.2.1)).symm)
      have HM := Lib.hid (And.intro ht (And.intro hph hpp))
      clear ht hph hpk hpp hle T0
      have TA := HM.out.1.alloc ZC
      have TB := HM.out.1.mq.at_.hB
      have HA := Lib.hid (And.intro TA TB)
      clear TA TB
      go_wp2_with (at_make; refine wpList_make_full _ rfl _ _ 35 rfl (q + 1 + 1) 4 i0 (.bool false) 1 Try.underlying35 hi0 hz0 hz1 _ _ _ _ n rfl rfl rfl rfl (by rw [hz2]; omega) (by unfold maxLen; omega) (by have := HA.out.2; simp; omega) ?_; intro w5 hown hgrow)
      have T5 := HA.out.1.below (w' := w5) ⟨hgrow.os, hgrow.tape, hgrow.output, hgrow.size, fun i hi => hgrow.block i hi (by simp)⟩
      have L5 : Blk w5 wr.heap.size 34 #[.int .i64 0, .int .i64 0, .int .u64 0, .int .u64 0] := (Blk.new _ _ _).grown hgrow (by simp)
      have S5 : w5.ownsRow (q + 1 + 1) 4 1 (.slice (some ⟨wr.heap.size + 1, 0, none⟩) n n) n ((List.replicate n false).map Value.bool) := by
        rw [show (Value.bool false).cells = #[Value.bool false] from rfl, Nat.mul_one, toList_madeCells_one] at hown
        simpa using hown
      have F5 : Far w q (q + 1) b c wr.heap.size := by
        have h1 := HA.out.2
        refine ⟨HM.out.1.mq.bel.size, by omega, by omega, fun e => ?_, fun e => ?_⟩
        · have := HM.out.1.mq.row_lt _ e; omega
        · have := HM.out.1.mp.row_lt _ e; omega
      have G5 : Far w q (q + 1) b c (wr.heap.size + 1) := by
        have h1 := HA.out.2
        refine ⟨by have := HM.out.1.mq.bel.size; omega, by omega, by omega, fun e => ?_, fun e => ?_⟩
        · have := HM.out.1.mq.row_lt _ e; omega
        · have := HM.out.1.mp.row_lt _ e; omega
      have hLS : ¬ wr.heap.size = wr.heap.size + 1 := by omega
      have HF := Lib.hid (And.intro F5 G5)
      have H5 := Lib.hid (And.intro T5 (And.intro L5 S5))
      clear F5 G5 T5 L5 S5 hown hgrow HA
      generalize wr.heap.size + 1 = S at *
      generalize wr.heap.size = L at *
      go_loopg [13] n (fun m v wr2 => ∃ h k x bs, O2 w (q + 1 + 1) q (q + 1) b c L S D n v m h k x bs wr2)
      case atStart =>
        obtain ⟨t1, t2, t3⟩ := HM.out
        obtain ⟨r1, r2, r3⟩ := H5.out
        refine ⟨h, k, ⟨0, 0, 0, 0⟩, List.replicate n false, by rw [Nat.sub_self]; rfl, Nat.le_refl _, r1, r2, r3, by rw [t2.length_eq, its_length], t3, (t2.map It.stamp).nodup_iff.2 (stamps_its D n), fun y hy => mem_its (t2.mem_iff.1 hy), fun j hj => ?_, .inl rfl⟩
        obtain ⟨j', hj', e⟩ := mem_its (t2.mem_iff.1 hj)
        have : j = j' := Int.ofNat.inj (congrArg It.stamp e)
        subst this
        simp [List.getD_eq_getElem?_getD, hj']
      case round =>
        obtain ⟨h, k, x, bs, rfl, hle, ht, hlast, hseen, hlen, hperm, hnod, hmem, hclean, hafter⟩ := hrel
        cases gk with
        | zero =>
          rw [Nat.sub_zero]
          have HM := Lib.hid (And.intro ht hlen)
          clear ht hlast hseen hlen hperm hnod hmem hclean hafter hle
          go_wp2_with fail
          refine (len_is (q + 1 + 1) q b h 0 HM.out.2 _ HM.out.1.mq.at_).mono ?_
          rintro e w9 ⟨rfl, rfl⟩
          go_wp2
          go_ret
          exact ⟨rfl, HM.out.1.mq.bel⟩
        | succ m =>
          obtain ⟨i, hi⟩ : ∃ i : Nat, n - (m + 1) = i := ⟨_, rfl⟩
          rw [hi]
          have i2 : (i : Int) < (n : Int) := by omega
          have hmn : m ≤ 900 := by omega
          obtain ⟨j, hjn, hxj⟩ := hmem _ (g_mem (by omega : 0 < h.length))
          have hcl := hclean j (hxj ▸ g_mem (by omega : 0 < h.length))
          have hyj : Heap.g k 0 = itOf D j := by rw [← same_first ht.mq.ok ht.mp.ok hperm hmem (by omega)]; exact hxj
          have hklen : k.length = m + 1 := by rw [← hperm.length_eq]; exact hlen
          have hdm := HR.out.2.2 j
          obtain ⟨d, hd⟩ : ∃ d, D.getD j 0 = d := ⟨_, rfl⟩
          unfold itOf at hxj hyj
          rw [hd] at hxj hyj hdm
          have j2 : (j : Int) < (n : Int) := by omega
          have H2 := Lib.hid (And.intro ht (And.intro hlast (And.intro hseen (And.intro hlen (And.intro hklen (And.intro hxj hyj))))))
          have HI := Lib.hid (And.intro hperm (And.intro hnod (And.intro hmem (And.intro hclean (And.intro hafter (And.intro hi (And.intro hle (And.intro hd hcl))))))))
          clear ht hlast hseen hlen hklen hxj hyj hperm hnod hmem hclean hafter hi hle hd hcl
          go_wp2_with fail
          refine (pop_yes (q + 1 + 1) q b h ⟨d, j, 0, 0⟩ m 9223372036854775807 _ H2.out.1.mq.at_ H2.out.1.mq.ok H2.out.2.2.2.1 hmn H2.out.2.2.2.2.2.1 (by simp; omega)).mono ?_
          rintro e w6 ⟨rfl, h6, p6, t6⟩
          have T6 := (H2.out.1.took t6).alloc (.cells #[.int .i64 d, .int .i64 j, .int .u64 0, .int .u64 0] 34)
          have X6 : Blk (w6.alloc (.cells #[.int .i64 d, .int .i64 j, .int .u64 0, .int .u64 0] 34)) w6.heap.size 34 #[.int .i64 d, .int .i64 j, .int .u64 0, .int .u64 0] := Blk.new _ _ _
          have L6 := (H2.out.2.1.kp t6.kp HF.out.1.q.symm HF.out.1.b.symm).alloc (.cells #[.int .i64 d, .int .i64 j, .int .u64 0, .int .u64 0] 34)
          have S6 := own_alloc (own_kp H2.out.2.2.1 t6.kp HF.out.2.q.symm HF.out.2.b.symm) (.cells #[.int .i64 d, .int .i64 j, .int .u64 0, .int .u64 0] 34)
          have FX : Far w q (q + 1) b c w6.heap.size := by
            have h0 := (H2.out.1.took t6)
            have h1 := h0.mq.at_.hB
            refine ⟨h0.mq.bel.size, by omega, by omega, fun e => ?_, fun e => ?_⟩
            · have := h0.mq.row_lt _ e; omega
            · have := h0.mp.row_lt _ e; omega
          have hLX : ¬ L = w6.heap.size := by
            have := (H2.out.2.1.kp t6.kp HF.out.1.q.symm HF.out.1.b.symm).lt
            omega
          have hSX : ¬ S = w6.heap.size := by
            have := ((own_kp H2.out.2.2.1 t6.kp HF.out.2.q.symm HF.out.2.b.symm).lt S rfl).2
            omega
          have H6 := Lib.hid (And.intro T6 (And.intro X6 (And.intro L6 (And.intro S6 (And.intro p6 (And.intro FX (And.intro hLX hSX)))))))
          clear T6 X6 L6 S6 p6 t6 FX hLX hSX
          go_wp2_with fail
          refine (pop_yes (q + 1 + 1) (q + 1) c k ⟨d, j, 0, 0⟩ m 9223372036854775807 _ H6.out.1.mp.at_ H6.out.1.mp.ok H2.out.2.2.2.2.1 hmn H2.out.2.2.2.2.2.2 (by simp; omega)).mono ?_
          rintro e w7 ⟨rfl, k7, p7, t7⟩
          obtain ⟨r1, r2, r3, r4, r5, r6, r7, r8⟩ := H6.out
          have T7 := (r1.swap.took t7).swap.alloc (.cells #[.int .i64 d, .int .i64 j, .int .u64 0, .int .u64 0] 34)
          have Y7 : Blk (w7.alloc (.cells #[.int .i64 d, .int .i64 j, .int .u64 0, .int .u64 0] 34)) w7.heap.size 34 #[.int .i64 d, .int .i64 j, .int .u64 0, .int .u64 0] := Blk.new _ _ _
          have X7 := (r2.kp t7.kp r6.p.symm r6.c.symm).alloc (.cells #[.int .i64 d, .int .i64 j, .int .u64 0, .int .u64 0] 34)
          have L7 := (r3.kp t7.kp HF.out.1.p.symm HF.out.1.c.symm).alloc (.cells #[.int .i64 d, .int .i64 j, .int .u64 0, .int .u64 0] 34)
          have S7 := own_alloc (own_kp r4 t7.kp HF.out.2.p.symm HF.out.2.c.symm) (.cells #[.int .i64 d, .int .i64 j, .int .u64 0, .int .u64 0] 34)
          obtain ⟨ad, rfl, hc⟩ := ints_at (HR.out.1.below T7.mq.bel) hjn
          obtain ⟨x0, x1, x2, x3⟩ := item_cells X7
          obtain ⟨y0, y1, y2, y3⟩ := item_cells Y7
          obtain ⟨l0, l1, l2, l3⟩ := item_cells L7
          have s0 := S7.cellAt j (by omega)
          rw [List.getElem?_map] at s0
          have hbl : bs.length = n := by have := S7.1; simp at this; exact this
          have hbj : bs[j]? = some false := by
            have := HI.out.2.2.2.2.2.2.2.2
            rw [List.getD_eq_getElem?_getD, List.getElem?_eq_getElem (by omega)] at this
            rw [List.getElem?_eq_getElem (by omega)]
            simpa using this
          rw [hbj] at s0
          have s0' : (w7.alloc (.cells #[.int .i64 d, .int .i64 j, .int .u64 0, .int .u64 0] 34)).cell? ⟨S, j, none⟩ = some (.bool false) := s0
          have hd := HI.out.2.2.2.2.2.2.2.1
          rw [hd] at hc
          have fS := S7.frozenAt j
          have f0 := L7.frozen 0
          have f1 := L7.frozen 1
          have f2 := L7.frozen 2
          have f3 := L7.frozen 3
          have H7 := Lib.hid (And.intro T7 (And.intro L7 (And.intro S7 (And.intro p7 hbl))))
          have HX := Lib.hid (And.intro r6 (And.intro r5 hd))
          have j0 : (0 : Int) ≤ (j : Int) := by omega
          clear T7 L7 S7 X7 Y7 p7 t7 r1 r2 r3 r4 r5 r6 s0 hbj hbl hd
          have hdd : (d != d) = false := by simp
          go_wp2_with fail
          generalize (w7.alloc (.cells #[.int .i64 d, .int .i64 j, .int .u64 0, .int .u64 0] 34)) = W8 at *
          go_quiet (fail)
          have hcase : i = 0 ∨ (0 < i ∧ x.due < d) ∨ (0 < i ∧ d = x.due ∧ x.stamp ≤ (j : Int)) := by
            obtain ⟨_, _, _, _, ha, hi, _, _, _⟩ := HI.out
            rcases ha with ha | ha
            · exact .inl (by omega)
            · rcases Nat.eq_zero_or_pos i with hz | hz
              · exact .inl hz
              · have := ha _ (g_mem (by have := H2.out.2.2.2.1; omega : 0 < h.length))
                rw [H2.out.2.2.2.2.2.1, lt_no] at this
                rcases this with e | ⟨e, e2⟩
                · exact .inr (.inl ⟨hz, e⟩)
                · exact .inr (.inr ⟨hz, e, e2⟩)
          have HN := Lib.hid hmn
          have hfin : 0 = i ∨ 0 < i → O2 w (q + 1 + 1) q (q + 1) b c L S D n (.int .i64 ((i : Int) + 1)) m h6 k7 ⟨d, j, 0, 0⟩ (bs.set j true) ((((((W8.drewN nq).setCell ⟨S, j, none⟩ (.bool true)).setCell ⟨L, 0, none⟩ (.int .i64 d)).setCell ⟨L, 1, none⟩ (.int .i64 j)).setCell ⟨L, 2, none⟩ (.int .u64 0)).setCell ⟨L, 3, none⟩ (.int .u64 0)) := by
            intro _
            obtain ⟨hperm, hnod, hmem, hclean, _, hi, hle, hdj, _⟩ := HI.out
            obtain ⟨T7, L7, S7, p7, hbl⟩ := H7.out
            obtain ⟨_, p6, _⟩ := HX.out
            obtain ⟨F1, F2⟩ := HF.out
            have hx : (⟨d, j, 0, 0⟩ : It) = itOf D j := by unfold itOf; rw [hdj]
            have hnd6 : ((⟨d, j, 0, 0⟩ :: h6 : List It).map It.stamp).Nodup := (p6.map It.stamp).nodup_iff.2 hnod
            rw [List.map_cons, List.nodup_cons] at hnd6
            have Td : Two w (W8.drewN nq) (q + 1 + 1) q (q + 1) b c h6 k7 := T7.below ⟨rfl, rfl, rfl, Nat.le_refl _, fun _ _ => rfl⟩
            have gL : ((W8.drewN nq).setCell ⟨S, j, none⟩ (.bool true)).grownBy ((((((W8.drewN nq).setCell ⟨S, j, none⟩ (.bool true)).setCell ⟨L, 0, none⟩ (.int .i64 d)).setCell ⟨L, 1, none⟩ (.int .i64 j)).setCell ⟨L, 2, none⟩ (.int .u64 0)).setCell ⟨L, 3, none⟩ (.int .u64 0)) (some L) := grown_set (grown_set (grown_set (grown_set (World.grownBy.refl _ _) _ _) _ _) _ _) _ _
            refine ⟨?_, by omega, ?_, ?_, ?_, ?_, ?_, hnd6.2, fun y hy => hmem y (p6.mem_iff.1 (List.mem_cons_of_mem _ hy)), fun j' hj' => ?_, .inr fun y hy => ?_⟩
            · rw [show n - m = i + 1 by omega]; rfl
            · exact ((((Td.set S j _ F2.base F2.q F2.p F2.b F2.c).set L 0 _ F1.base F1.q F1.p F1.b F1.c).set L 1 _ F1.base F1.q F1.p F1.b F1.c).set L 2 _ F1.base F1.q F1.p F1.b F1.c).set L 3 _ F1.base F1.q F1.p F1.b F1.c
            · exact ((((L7.drewN nq).far (p := ⟨S, j, none⟩) hLS (.bool true)).set_ 0 (.int .i64 d)).set_ 1 (.int .i64 j)).set_ 2 (.int .u64 0) |>.set_ 3 (.int .u64 0)
            · have h1 : (W8.drewN nq).ownsRow (q + 1 + 1) 4 1 (.slice (some ⟨S, 0, none⟩) n n) n (bs.map Value.bool) := own_below S7 ⟨rfl, rfl, rfl, Nat.le_refl _, fun _ _ => rfl⟩
              have h2 := (h1.stored j (.bool true)).1.kept gL (.inr (by simp [Value.ownBlock]; exact fun e => hLS e.symm))
              rwa [← List.map_set] at h2
            · have := p6.length_eq
              rw [H2.out.2.2.2.1] at this
              simpa using this
            · have h1 := (p6.trans hperm).trans p7.symm
              exact h1.cons_inv
            · by_cases e : j = j'
              · subst e
                exact absurd (List.mem_map_of_mem (f := It.stamp) hj') hnd6.1
              · have := hclean j' (p6.mem_iff.1 (List.mem_cons_of_mem _ hj'))
                rw [List.getD_eq_getElem?_getD, List.getElem?_set_ne e, ← List.getD_eq_getElem?_getD]
                exact this
            · have h1 := p6.mem_iff.1 (List.mem_cons_of_mem _ hy)
              obtain ⟨a, ha, ea⟩ := Heap.mem_g h y h1
              have := H2.out.1.mq.ok.first lt_ord a ha
              rw [ea, H2.out.2.2.2.2.2.1] at this
              exact this
          have HQ := Lib.hid hfin
          have HC := Lib.hid hcase
          clear hcase hfin
          have HL := Lib.hid l0
          rcases HC.out with hz | ⟨hz, h1⟩ | ⟨hz, h1, h2⟩
          · have hz1 : (0 : Int) < (i : Int) → False := by omega
            have hz2 : ¬ (0 : Int) < (i : Int) := hz1
            have hz3 : (i : Int) ≤ 0 := by omega
            go_wp2
            go_roundg m
            case measure => omega
            case rel => exact ⟨h6, k7, _, _, by have e := HQ.out (by omega); rw [show ((i : Int) + 1) = 1 by omega] at e; exact e⟩
          · have hz1 : (0 : Int) < (i : Int) := by omega
            have h3 : (d == x.due) = false := by simp; omega
            go_wp2
            go_roundg m
            case measure => omega
            case rel => exact ⟨h6, k7, _, _, HQ.out (by omega)⟩
          · have hz1 : (0 : Int) < (i : Int) := by omega
            have h3 : (d == x.due) = true := by simp; omega
            have h4 : x.due ≤ d := by omega
            clear h1
            go_wp2
            go_roundg m
            case measure => omega
            case rel => exact ⟨h6, k7, _, _, HQ.out (by omega)⟩
set_option maxRecDepth 100000 in
theorem order_a (A : Option Addr) (n cap : Nat) (t : Int) (w : World) (hn : 100 < n) :
    Calls Try.prog 3 #[.slice A n cap, .int .i64 t] w fun e w' => e = .returned (.bool true) ∧ Below w.heap.size w w' := by
  have hn2 : (100 : Int) < (n : Int) := by omega
  go_enter Try.func3, Try.ntmps3
  go_wp2_with fail
  refine (alive_any _).mono ?_
  rintro e w1 ⟨rfl, hb1⟩
  go_wp2
  go_ret
  exact ⟨rfl, hb1⟩
set_option maxRecDepth 100000 in
theorem order_b (A : Option Addr) (cap : Nat) (t : Int) (w : World) :
    Calls Try.prog 3 #[.slice A 0 cap, .int .i64 t] w fun e w' => e = .returned (.bool true) ∧ Below w.heap.size w w' := by
  go_enter Try.func3, Try.ntmps3
  go_wp2_with fail
  refine (alive_any _).mono ?_
  rintro e w1 ⟨rfl, hb1⟩
  go_wp2
  go_ret
  exact ⟨rfl, hb1⟩
theorem order_any (A : Option Addr) (n cap : Nat) (D : List Int) (t : Int) (w : World) (hR : Reads w w.heap.size 1 A n (ints D)) (hD : ∀ j, D.getD j 0 ≤ 9223372036854775807) :
    Calls Try.prog 3 #[.slice A n cap, .int .i64 t] w fun e w' => e = .returned (.bool true) ∧ Below w.heap.size w w' := by
  by_cases hn : n ≤ 100
  · rcases Nat.eq_zero_or_pos n with h0 | h0
    · subst h0; exact order_b A cap t w
    · exact order_main A n cap D t w hR hn h0 hD
  · exact order_a A n cap t w (by omega)
end Go.Proofs.Ytmepipnledoinaa
