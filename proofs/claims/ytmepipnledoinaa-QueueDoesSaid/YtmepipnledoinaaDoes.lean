/- The walk of the law QueueDoes. Conditions: those of its row. -/
import Derived.Test.YtmepipnledoinaaDoKit
import Derived.Deep.CutBlock
import Derived.Deep.DeepCutAuto
import Derived.BigQuiet
import Derived.Deep.QuietTactic
namespace Go.Proofs.Ytmepipnledoinaa
open Go.RowKit Go.BigFrame
/-- a call of the script -/
structure Cl where
  kind : Int
  it : It
  n : Int
def ReadsC (w : World) (B : Nat) (A : Option Addr) (n : Nat) (C : Nat → Cl) : Prop := 0 < n → ∃ ad, A = some ad ∧ ad.block < B ∧ ∀ i, i < n →
  w.cell? (ad.add (i * 6)) = some (.int .i64 (C i).kind) ∧ w.cell? (ad.add (i * 6 + 1)) = some (.int .i64 (C i).it.due) ∧ w.cell? (ad.add (i * 6 + 2)) = some (.int .i64 (C i).it.stamp) ∧
  w.cell? (ad.add (i * 6 + 3)) = some (.int .u64 (C i).it.hi) ∧ w.cell? (ad.add (i * 6 + 4)) = some (.int .u64 (C i).it.lo) ∧ w.cell? (ad.add (i * 6 + 5)) = some (.int .i64 (C i).n)
theorem ReadsC.below {w w' : World} {B : Nat} {A : Option Addr} {n : Nat} {C : Nat → Cl} (h : ReadsC w B A n C) (hb : Below B w w') : ReadsC w' B A n C := by
  intro h0
  obtain ⟨ad, e, hB, hc⟩ := h h0
  refine ⟨ad, e, hB, fun i hi => ?_⟩
  obtain ⟨c0, c1, c2, c3, c4, c5⟩ := hc i hi
  have hk : ∀ k u, w.cell? (ad.add k) = some u → w'.cell? (ad.add k) = some u := fun k u hu => (hb.cell (by rw [block_of_add]; exact hB)).trans hu
  exact ⟨hk _ _ c0, hk _ _ c1, hk _ _ c2, hk _ _ c3, hk _ _ c4, hk _ _ c5⟩
theorem cells_46 {w : World} {b : Nat} {k x y z t n : Int} (h : Blk w b 46 #[.int .i64 k, .int .i64 x, .int .i64 y, .int .u64 z, .int .u64 t, .int .i64 n]) : w.cell? ⟨b, 0, none⟩ = some (.int .i64 k) ∧ w.cell? ⟨b, 1, none⟩ = some (.int .i64 x) ∧ w.cell? ⟨b, 2, none⟩ = some (.int .i64 y) ∧ w.cell? ⟨b, 3, none⟩ = some (.int .u64 z) ∧ w.cell? ⟨b, 4, none⟩ = some (.int .u64 t) ∧ w.cell? ⟨b, 5, none⟩ = some (.int .i64 n) := ⟨h.cell 0, h.cell 1, h.cell 2, h.cell 3, h.cell 4, h.cell 5⟩
set_option maxRecDepth 100000 in
set_option maxHeartbeats 8000000 in
theorem does_main (A : Option Addr) (n cap : Nat) (C : Nat → Cl) (w : World) (hR : ReadsC w w.heap.size A n C) (hn : n ≤ 200) :
    Calls Try.prog 6 #[.slice A n cap] w fun e w' => e = .returned (.bool true) ∧ Below w.heap.size w w' := by
  have hnn : (n : Int) ≤ 200 := by omega
  obtain ⟨i0, hi0, hz0, hz1, hz2⟩ := info_parts Try.info48
  have HR := Lib.hid hR
  clear hR
  go_enter Try.func6, Try.ntmps6
  go_wp2_with fail
  refine (alive_any _).mono ?_
  rintro e w1 ⟨rfl, hb1⟩
  have M0 := Mine.new w w1 hb1
  go_wp2_with fail
  generalize (w1.alloc (.cells #[.slice none 0 0] 27)) = W at *
  generalize w1.heap.size = q at *
  go_loopg [28, 4] n (fun k vi v wr => ∃ b h l, vi = .int .i64 ((n - k : Nat) : Int) ∧ k ≤ n ∧ DoInv w (q + 1) q b h l v (n - k) wr)
  case atStart => exact ⟨none, [], [], by rw [Nat.sub_self]; rfl, Nat.le_refl _, M0, World.ownsRow_nil _ _ _ _, (fun g e => by cases e), List.Perm.refl _, List.nodup_nil, Nat.zero_le _⟩
  case round =>
    obtain ⟨b, h, l, rfl, hle, hD⟩ := hrel
    cases gk with
    | zero =>
      rw [Nat.sub_zero] at hD ⊢
      have HM := Lib.hid hD.m.bel
      clear hD hle M0
      go_wp2_with fail
      refine (put_nil 0 0 0 0 _).mono ?_
      rintro e w2 ⟨rfl, hb2⟩
      have HM2 := Lib.hid (HM.out.trans (hb2.mono HM.out.size))
      clear hb2
      go_wp2_with fail
      refine (pop_nil 1 _).mono ?_
      rintro e w3 ⟨rfl, hb3⟩
      have b3 := HM2.out.trans (hb3.mono HM2.out.size)
      have HM3 := Lib.hid (b3.alloc b3.size ZC)
      clear hb3 b3
      go_wp2_with fail
      refine (first_nil _).mono ?_
      rintro e w4 ⟨rfl, hb4⟩
      have b4 := HM3.out.trans (hb4.mono HM3.out.size)
      have HM4 := Lib.hid (b4.alloc b4.size ZC)
      clear hb4 b4
      go_wp2_with fail
      refine (drop_nil 1 _).mono ?_
      rintro e w5 ⟨rfl, rfl⟩
      go_wp2_with fail
      refine (len_nil _).mono ?_
      rintro e w6 ⟨rfl, rfl⟩
      go_wp2
      go_ret
      exact ⟨rfl, HM4.out⟩
    | succ k =>
      obtain ⟨i, hi⟩ : ∃ i : Nat, n - (k + 1) = i := ⟨_, rfl⟩
      rw [hi] at hD ⊢
      have hin : i < n := by omega
      have i2 : (i : Int) < (n : Int) := by omega
      obtain ⟨ad, rfl, hadb, hcs⟩ := (HR.out.below hD.m.bel) (by omega)
      obtain ⟨c0, c1, c2, c3, c4, c5⟩ := hcs i hin
      obtain ⟨⟨kind, ⟨due, stamp, hi', lo⟩, nn⟩, hC⟩ : ∃ c, C i = c := ⟨_, rfl⟩
      rw [hC] at c0 c1 c2 c3 c4 c5
      have hadd : ∀ j, 0 < j → ad.add (i * 6 + j) = ⟨(ad.add (i * 6)).block, (ad.add (i * 6)).off + j, none⟩ := fun j hj => by
        rw [← Addr.add_add]
        unfold Addr.add
        rw [if_neg (show ¬ j = 0 by omega)]
      rw [hadd _ (by omega)] at c1 c2 c3 c4 c5
      have HM := Lib.hid (And.intro hD (And.intro hi (And.intro hle hadb)))
      clear hD hi hle hcs hC M0 hadb hadd
      go_upto_block 2 with fail
      have D2 := HM.out.1.below ((Below.refl wr.heap.size wr).alloc (Nat.le_refl _) (.cells #[.int .i64 kind, .int .i64 due, .int .i64 stamp, .int .u64 hi', .int .u64 lo, .int .i64 nn] 46))
      have B2 : Blk (wr.alloc (.cells #[.int .i64 kind, .int .i64 due, .int .i64 stamp, .int .u64 hi', .int .u64 lo, .int .i64 nn] 46)) wr.heap.size 46 #[.int .i64 kind, .int .i64 due, .int .i64 stamp, .int .u64 hi', .int .u64 lo, .int .i64 nn] := Blk.new _ _ _
      have f1 : q ≠ wr.heap.size := by have := HM.out.1.m.q_lt; omega
      have f2 : b ≠ some wr.heap.size := fun e => by have := HM.out.1.m.row_lt _ e; omega
      have f3 : u4.ownBlock ≠ some wr.heap.size := fun e => by have := (HM.out.1.own.lt _ e).2; omega
      have HI := Lib.hid (And.intro HM.out.2.1 HM.out.2.2.1)
      have HD := Lib.hid D2
      have HB := Lib.hid (And.intro B2 (And.intro f1 (And.intro f2 f3)))
      clear D2 B2 f1 f2 f3 c0 c1 c2 c3 c4 c5 HM
      generalize (wr.alloc (.cells #[.int .i64 kind, .int .i64 due, .int .i64 stamp, .int .u64 hi', .int .u64 lo, .int .i64 nn] 46)) = W2 at *
      generalize wr.heap.size = pc at *
      go_cut [4] (fun v wx => ∃ b h l, DoInv w (q + 1) q b h l v (i + 1) wx)
      case first =>
        have hl3 : l.length ≤ 200 := by have := HD.out.len; omega
        by_cases k0 : kind = 0
        · subst k0
          obtain ⟨c0, c1, c2, c3, c4, c5⟩ := cells_46 HB.out.1
          go_wp2_with fail
          by_cases hx : ∀ x ∈ l, x.stamp ≠ stamp
          · refine (find_absent HD.out.own (by omega) stamp hx).mono ?_
            rintro e w3 ⟨rfl, hb3⟩
            have B3 := HB.out.1.below hb3 HB.out.1.lt
            have HD3 := Lib.hid (HD.out.below hb3)
            have HX := Lib.hid (And.intro hx B3)
            clear c0 c1 c2 c3 c4 c5 hb3 hx
            obtain ⟨c0, c1, c2, c3, c4, c5⟩ := cells_46 B3
            clear B3
            go_wp2_with fail
            refine (put_any (q + 1) q b h ⟨due, stamp, hi', lo⟩ _ HD3.out.m.at_ HD3.out.m.ok (by rw [HD3.out.hlen]; omega)).mono ?_
            rintro e w4 ⟨rfl, h2, p2, l2⟩
            have B4 := HX.out.2.kp l2.kp HB.out.2.1.symm HB.out.2.2.1.symm
            obtain ⟨b4, m4, own4, far4⟩ := HD3.out.left l2
            have own4a := own_alloc own4 (.cells #[.int .i64 due, .int .i64 stamp, .int .u64 hi', .int .u64 lo] 48)
            have R4 : Reads (w4.alloc (.cells #[.int .i64 due, .int .i64 stamp, .int .u64 hi', .int .u64 lo] 48)) _ 4 (some ⟨w4.heap.size, 0, none⟩) 1 [.int .i64 due, .int .i64 stamp, .int .u64 hi', .int .u64 lo] := reads_blk (Blk.new w4 48 #[.int .i64 due, .int .i64 stamp, .int .u64 hi', .int .u64 lo]) rfl
            have one4 : ∀ u ∈ [Value.int .i64 due, .int .i64 stamp, .int .u64 hi', .int .u64 lo], u.oneCell' = true := by simp [Value.oneCell']
            have hsz : q + 1 ≤ (w4.alloc (.cells #[.int .i64 due, .int .i64 stamp, .int .u64 hi', .int .u64 lo] 48)).heap.size := Nat.le_trans m4.at_.hB (by simp)
            have H4 := Lib.hid (And.intro p2 l2)
            have HO4 := Lib.hid (And.intro own4a (And.intro R4 hsz))
            clear c0 c1 c2 c3 c4 c5 p2 l2 m4 own4 far4 own4a R4 hsz
            obtain ⟨c0, c1, c2, c3, c4, c5⟩ := cells_46 B4
            clear B4
            go_wp2_with (first | (at_builtin; refine wpList_append_any _ rfl _ _ 44 rfl (q + 1) 48 i0 _ 4 32 Try.underlying44 hi0 hz0 hz1 hz2 rfl (by omega) _ l.length (flat l) rfl HO4.out.1 _ _ 1 1 _ rfl HO4.out.2.1 one4 (by unfold maxLen; omega) (by omega) HO4.out.2.2 ?_; intro v5 w5 hown5 hgrow5 hat5) | fail)
            go_meet
            case rel =>
              obtain ⟨b5, hF⟩ := HD3.out.more (x := ⟨due, stamp, hi', lo⟩) H4.out.2 H4.out.1 HX.out.1 hown5 hgrow5 hat5
              exact ⟨b5, h2, _, hF⟩
          · obtain ⟨x, hxl, hxs⟩ : ∃ x ∈ l, x.stamp = stamp := by
              refine Classical.byContradiction fun hn => hx fun x hxl hxs => hn ⟨x, hxl, hxs⟩
            obtain ⟨m, hm, em⟩ := Heap.mem_g l x hxl
            refine (find_at HD.out.own (by omega) HD.out.nod stamp m hm (by rw [em]; exact hxs)).mono ?_
            rintro e w3 ⟨rfl, hb3⟩
            have HD3 := Lib.hid (HD.out.below hb3).next
            have m0 : (0 : Int) ≤ (m : Int) := by omega
            clear c0 c1 c2 c3 c4 c5 hb3 hx hxl hxs em
            go_wp2
            go_roundg k
            case measure => omega
            case rel =>
              have hk : n - k = i + 1 := by have := HI.out; omega
              exact ⟨b, h, l, by rw [hk]; go_num, by have := HI.out.2; omega, by rw [hk]; exact HD3.out⟩
        · have k0b : (kind == 0) = false := by simpa using k0
          by_cases k1 : kind = 1
          · subst k1
            obtain ⟨c0, c1, c2, c3, c4, c5⟩ := cells_46 HB.out.1
            go_wp2_with fail
            by_cases hx : ∀ x ∈ l, x.stamp ≠ nn
            · refine (find_absent HD.out.own (by omega) nn hx).mono ?_
              rintro e w3 ⟨rfl, hb3⟩
              have B3 := HB.out.1.below hb3 HB.out.1.lt
              have HD3 := Lib.hid (HD.out.below hb3)
              have HX := Lib.hid hx
              clear c0 c1 c2 c3 c4 c5 hb3 hx
              obtain ⟨c0, c1, c2, c3, c4, c5⟩ := cells_46 B3
              clear B3
              go_wp2_with fail
              refine (drop_isnt (q + 1) q b h nn _ HD3.out.m.at_ (by rw [HD3.out.hlen]; omega) (fun x hx' => HX.out x (HD3.out.p.mem_iff.1 hx'))).mono ?_
              rintro e w4 ⟨rfl, hb4⟩
              have HD4 := Lib.hid (HD3.out.below hb4).next
              clear hb4
              go_wp2
              go_meet
              case rel => exact ⟨b, h, l, HD4.out⟩
            · obtain ⟨x, hxl, hxs⟩ : ∃ x ∈ l, x.stamp = nn := by
                refine Classical.byContradiction fun hn => hx fun x hxl hxs => hn ⟨x, hxl, hxs⟩
              obtain ⟨m, hm, em⟩ := Heap.mem_g l x hxl
              refine (find_at HD.out.own (by omega) HD.out.nod nn m hm (by rw [em]; exact hxs)).mono ?_
              rintro e w3 ⟨rfl, hb3⟩
              have B3 := HB.out.1.below hb3 HB.out.1.lt
              have HD3 := Lib.hid (HD.out.below hb3)
              have HX := Lib.hid (And.intro hxl (And.intro hxs (And.intro hm em)))
              have m0 : (0 : Int) ≤ (m : Int) := by omega
              clear c0 c1 c2 c3 c4 c5 hb3 hx hxl hxs hm em
              obtain ⟨c0, c1, c2, c3, c4, c5⟩ := cells_46 B3
              clear B3
              go_wp2_with fail
              refine (drop_is (q + 1) q b h x nn _ HD3.out.m.at_ HD3.out.m.ok (by rw [HD3.out.hlen]; omega) (HD3.out.p.mem_iff.2 HX.out.1) ((HD3.out.p.map It.stamp).nodup_iff.2 HD3.out.nod) HX.out.2.1).mono ?_
              rintro e w4 ⟨rfl, h4, p4, t4⟩
              have H4 := Lib.hid (And.intro p4 (HD3.out.took t4))
              clear c0 c1 c2 c3 c4 c5 p4 t4
              go_wp2_with fail
              refine (without_at H4.out.2.2 H4.out.2.1.at_.hB (by omega) m HX.out.2.2.1).mono ?_
              rintro e w5 ⟨v5, rfl, own5, hb5, hv5⟩
              have HF := Lib.hid (HD3.out.less H4.out.2.1 H4.out.1 HX.out.2.2.1 HX.out.2.2.2 own5 hb5 hv5)
              clear own5 hb5 hv5
              go_wp2
              go_meet
              case rel => exact ⟨b, h4, _, HF.out⟩
          · have k1b : (kind == 1) = false := by simpa using k1
            by_cases k2 : kind = 2
            · subst k2
              obtain ⟨c0, c1, c2, c3, c4, c5⟩ := cells_46 HB.out.1
              go_wp2_with fail
              by_cases hs : ∀ x ∈ h, nn < x.due
              · refine (pop_none (q + 1) q b h nn _ HD.out.m.at_ hs).mono ?_
                rintro e w3 ⟨rfl, hb3⟩
                have HD3 := Lib.hid ((HD.out.below hb3).below ((Below.refl _ _).alloc (Nat.le_refl _) ZC))
                have X3 : Blk (w3.alloc ZC) w3.heap.size 34 #[.int .i64 0, .int .i64 0, .int .u64 0, .int .u64 0] := Blk.new _ _ _
                have HX3 := Lib.hid (And.intro X3 (And.intro ((HB.out.1.below hb3 HB.out.1.lt).alloc ZC) hs))
                clear c0 c1 c2 c3 c4 c5 hb3 X3 hs
                rcases Nat.eq_zero_or_pos l.length with h0 | h0
                · obtain rfl := List.length_eq_zero_iff.1 h0
                  go_wp2_with fail
                  refine (first_none HD3.out.own).mono ?_
                  rintro e w5 ⟨rfl, hb5⟩
                  have HD5 := Lib.hid (HD3.out.below hb5).next
                  have X5 := HX3.out.1.below hb5 HX3.out.1.lt
                  have B5 := HX3.out.2.1.below hb5 HX3.out.2.1.lt
                  clear hb5
                  obtain ⟨x0, x1, x2, x3⟩ := item_cells X5
                  obtain ⟨c0, c1, c2, c3, c4, c5⟩ := cells_46 B5
                  clear X5 B5
                  go_wp2_with fail
                  go_quiet (fail)
                  go_wp2
                  go_roundg k
                  case measure => omega
                  case rel =>
                    have hk : n - k = i + 1 := by have := HI.out; omega
                    exact ⟨b, h, [], by rw [hk]; go_num, by have := HI.out.2; omega, by rw [hk]; exact HD5.out.below (bel_drewN _ _)⟩
                · obtain ⟨x, hx⟩ : ∃ x, Heap.g h 0 = x := ⟨_, rfl⟩
                  have hxh : x ∈ h := hx ▸ g_mem (by rw [HD.out.hlen]; exact h0)
                  have hxd : nn < x.due := HX3.out.2.2 x hxh
                  obtain ⟨m, hm, em⟩ := Heap.mem_g l x (HD.out.p.mem_iff.1 hxh)
                  have HX := Lib.hid (And.intro hx (And.intro hm (And.intro em hxd)))
                  clear hx hxh em hxd
                  go_wp2_with fail
                  refine (first_at HD3.out.own (by omega) HD3.out.nod m hm (heap_min HD3.out.m.ok HD3.out.p (by rw [HX.out.2.2.1, HX.out.1]))).mono ?_
                  rintro e w5 ⟨rfl, hb5⟩
                  have HD5 := Lib.hid (HD3.out.below hb5).next
                  have X5 := HX3.out.1.below hb5 HX3.out.1.lt
                  have B5 := HX3.out.2.1.below hb5 HX3.out.2.1.lt
                  clear hb5
                  obtain ⟨x0, x1, x2, x3⟩ := item_cells X5
                  obtain ⟨c0, c1, c2, c3, c4, c5⟩ := cells_46 B5
                  clear X5 B5
                  obtain ⟨g4, cp4, rfl, hr4⟩ := own_row HD5.out.own h0
                  obtain ⟨y0, y1, y2, y3⟩ := hr4.item hm
                  rw [HX.out.2.2.1] at y0 y1 y2 y3
                  clear hr4
                  have m0 : (0 : Int) ≤ (m : Int) := by omega
                  have m2 : (m : Int) < (l.length : Int) := by omega
                  have hm0 : decide ((m : Int) < 0) = false := decide_eq_false (by omega)
                  have hlate : decide (nn < x.due) = true := decide_eq_true HX.out.2.2.2
                  go_wp2_with fail
                  go_quiet (fail)
                  go_wp2
                  go_roundg k
                  case measure => omega
                  case rel =>
                    have hk : n - k = i + 1 := by have := HI.out; omega
                    exact ⟨b, h, l, by rw [hk]; go_num, by have := HI.out.2; omega, by rw [hk]; exact HD5.out.below (bel_drewN _ _)⟩
              · obtain ⟨h0, hdue⟩ := head_due HD.out.m.ok hs
                obtain ⟨x, hx⟩ : ∃ x, Heap.g h 0 = x := ⟨_, rfl⟩
                have hxh : x ∈ h := hx ▸ g_mem h0
                rw [hx] at hdue
                obtain ⟨m, hm, em⟩ := Heap.mem_g l x (HD.out.p.mem_iff.1 hxh)
                obtain ⟨hn, hhn⟩ : ∃ hn, h.length = hn + 1 := ⟨h.length - 1, by omega⟩
                have hlh := HD.out.hlen
                refine (pop_yes (q + 1) q b h x hn nn _ HD.out.m.at_ HD.out.m.ok hhn (by omega) hx (by omega)).mono ?_
                rintro e w3 ⟨rfl, h3, p3, t3⟩
                obtain ⟨m3, own3⟩ := HD.out.took t3
                have m3a := m3.below ((Below.refl _ _).alloc (Nat.le_refl _) (.cells #[.int .i64 x.due, .int .i64 x.stamp, .int .u64 x.hi, .int .u64 x.lo] 34))
                have own3a := own_alloc own3 (.cells #[.int .i64 x.due, .int .i64 x.stamp, .int .u64 x.hi, .int .u64 x.lo] 34)
                have X3 : Blk (w3.alloc (.cells #[.int .i64 x.due, .int .i64 x.stamp, .int .u64 x.hi, .int .u64 x.lo] 34)) w3.heap.size 34 #[.int .i64 x.due, .int .i64 x.stamp, .int .u64 x.hi, .int .u64 x.lo] := Blk.new _ _ _
                have B3 := (HB.out.1.kp t3.kp HB.out.2.1.symm HB.out.2.2.1.symm).alloc (.cells #[.int .i64 x.due, .int .i64 x.stamp, .int .u64 x.hi, .int .u64 x.lo] 34)
                have hmin := heap_min HD.out.m.ok HD.out.p (m := m) (by rw [em, hx])
                have HX3 := Lib.hid (And.intro X3 (And.intro B3 (And.intro m3a (And.intro own3a (And.intro p3 (And.intro em (And.intro hmin hdue)))))))
                have l0 : 0 < l.length := by omega
                clear c0 c1 c2 c3 c4 c5 X3 B3 m3 own3 m3a own3a p3 em hmin hs hdue h0 hx hxh hhn hlh t3
                go_wp2_with fail
                refine (first_at HX3.out.2.2.2.1 (by omega) HD.out.nod m hm HX3.out.2.2.2.2.2.2.1).mono ?_
                rintro e w5 ⟨rfl, hb5⟩
                have X5 := HX3.out.1.below hb5 HX3.out.1.lt
                have B5 := HX3.out.2.1.below hb5 HX3.out.2.1.lt
                have m5 := HX3.out.2.2.1.below hb5
                have own5 := own_below HX3.out.2.2.2.1 hb5
                clear hb5
                obtain ⟨x0, x1, x2, x3⟩ := item_cells X5
                obtain ⟨c0, c1, c2, c3, c4, c5⟩ := cells_46 B5
                obtain ⟨g4, cp4, rfl, hr4⟩ := own_row own5 l0
                obtain ⟨y0, y1, y2, y3⟩ := hr4.item hm
                rw [HX3.out.2.2.2.2.2.1] at y0 y1 y2 y3
                have H5 := Lib.hid (And.intro m5 own5)
                clear X5 B5 hr4 m5 own5
                have m0 : (0 : Int) ≤ (m : Int) := by omega
                have m2 : (m : Int) < (l.length : Int) := by omega
                have hm0 : decide ((m : Int) < 0) = false := decide_eq_false (by omega)
                have hlate : decide (nn < x.due) = false := decide_eq_false (by have := HX3.out.2.2.2.2.2.2.2; omega)
                go_wp2_with fail
                go_quiet (fail)
                go_wp2_with fail
                go_quiet (fail)
                go_wp2_with fail
                refine (without_at (own_below H5.out.2 (bel_drewN _ _)) (H5.out.1.below (bel_drewN _ _)).at_.hB (by omega) m hm).mono ?_
                rintro e w6 ⟨v6, rfl, own6, hb6, hv6⟩
                have HF := Lib.hid (HD.out.less (H5.out.1.below (bel_drewN w5 _)) HX3.out.2.2.2.2.1 hm HX3.out.2.2.2.2.2.1 own6 hb6 hv6)
                clear own6 hb6 hv6
                go_wp2
                go_meet
                case rel => exact ⟨b, h3, _, HF.out⟩
            · have k2b : (kind == 2) = false := by simpa using k2
              have HD3 := Lib.hid HD.out.next
              go_wp2
              go_meet
              case rel => exact ⟨b, h, l, HD3.out⟩
      case rest =>
        obtain ⟨b, h, l, hD⟩ := hcut
        have hl3 : l.length ≤ 201 := by have := hD.len; omega
        have HD := Lib.hid hD
        clear hD HB
        rcases Nat.eq_zero_or_pos l.length with h0 | h0
        · obtain rfl := List.length_eq_zero_iff.1 h0
          obtain rfl := HD.out.p.eq_nil
          go_wp2_with fail
          refine (first_no (q + 1) q b _ HD.out.m.at_).mono ?_
          rintro e w3 ⟨rfl, hb3⟩
          have HD3 := Lib.hid ((HD.out.below hb3).below ((Below.refl _ _).alloc (Nat.le_refl _) ZC))
          clear hb3
          go_wp2_with fail
          refine (first_none HD3.out.own).mono ?_
          rintro e w5 ⟨rfl, hb5⟩
          have HD5 := Lib.hid (HD3.out.below hb5)
          clear hb5
          obtain ⟨A4, cp4, rfl⟩ := own_nil HD5.out.own
          have HQ : ∀ j, Calls Try.prog 10 #[.pointer (some ⟨q, 0, none⟩)] (w5.drewN j) fun e w' => e = .returned (.int .i64 0) ∧ w5.drewN j = w' := fun j => len_is (q + 1) q b [] 0 rfl _ (HD5.out.below (bel_drewN w5 j)).m.at_
          have HQ2 := Lib.hid HQ
          clear HQ
          go_wp2_with fail
          go_quiet ((go_at_call 10; refine qs1 (HQ2.out _)))
          go_wp2
          go_roundg k
          case measure => omega
          case rel =>
            have hk : n - k = i + 1 := by have := HI.out; omega
            exact ⟨b, [], [], by rw [hk]; go_num, by have := HI.out.2; omega, by rw [hk]; exact HD5.out.below (bel_drewN _ _)⟩
        · obtain ⟨x, hx⟩ : ∃ x, Heap.g h 0 = x := ⟨_, rfl⟩
          have hxl : x ∈ l := HD.out.p.mem_iff.1 (hx ▸ g_mem (by rw [HD.out.hlen]; exact h0))
          obtain ⟨m, hm, em⟩ := Heap.mem_g l x hxl
          obtain ⟨hn, hhn⟩ : ∃ hn, h.length = hn + 1 := ⟨h.length - 1, by have := HD.out.hlen; omega⟩
          have hlh : l.length = hn + 1 := by rw [← HD.out.hlen]; exact hhn
          have HX := Lib.hid (And.intro hx (And.intro hm (And.intro em (And.intro hhn hlh))))
          clear hx hxl em hhn hlh
          go_wp2_with fail
          refine (first_yes (q + 1) q b h x hn _ HD.out.m.at_ HX.out.2.2.2.1 HX.out.1).mono ?_
          rintro e w3 ⟨rfl, hb3⟩
          have HD3 := Lib.hid ((HD.out.below hb3).below ((Below.refl _ _).alloc (Nat.le_refl _) (.cells #[.int .i64 x.due, .int .i64 x.stamp, .int .u64 x.hi, .int .u64 x.lo] 34)))
          have X3 : Blk (w3.alloc (.cells #[.int .i64 x.due, .int .i64 x.stamp, .int .u64 x.hi, .int .u64 x.lo] 34)) w3.heap.size 34 #[.int .i64 x.due, .int .i64 x.stamp, .int .u64 x.hi, .int .u64 x.lo] := Blk.new _ _ _
          have HX3 := Lib.hid X3
          clear hb3 X3
          go_wp2_with fail
          refine (first_at HD3.out.own (by omega) HD3.out.nod m hm (heap_min HD3.out.m.ok HD3.out.p (by rw [HX.out.2.2.1, HX.out.1]))).mono ?_
          rintro e w5 ⟨rfl, hb5⟩
          have HD5 := Lib.hid (HD3.out.below hb5)
          have X5 := HX3.out.below hb5 HX3.out.lt
          clear hb5
          obtain ⟨x0, x1, x2, x3⟩ := item_cells X5
          clear X5
          obtain ⟨g4, cp4, rfl, hr4⟩ := own_row HD5.out.own h0
          obtain ⟨y0, y1, y2, y3⟩ := hr4.item hm
          rw [HX.out.2.2.1] at y0 y1 y2 y3
          clear hr4
          have HQ : ∀ j, Calls Try.prog 10 #[.pointer (some ⟨q, 0, none⟩)] (w5.drewN j) fun e w' => e = .returned (.int .i64 (l.length : Int)) ∧ w5.drewN j = w' := fun j => len_is (q + 1) q b h l.length HD5.out.hlen _ (HD5.out.below (bel_drewN w5 j)).m.at_
          have HQ2 := Lib.hid HQ
          clear HQ
          have m0 : (0 : Int) ≤ (m : Int) := by omega
          have m2 : (m : Int) < (l.length : Int) := by omega
          have hll : ((l.length : Int) != (l.length : Int)) = false := by simp
          go_wp2_with fail
          go_quiet ((go_at_call 10; refine qs1 (HQ2.out _)))
          go_wp2
          go_roundg k
          case measure => omega
          case rel =>
            have hk : n - k = i + 1 := by have := HI.out; omega
            exact ⟨b, h, l, by rw [hk]; go_num, by have := HI.out.2; omega, by rw [hk]; exact HD5.out.below (bel_drewN _ _)⟩
set_option maxRecDepth 100000 in
theorem does_a (A : Option Addr) (n cap : Nat) (w : World) (hn : 200 < n) :
    Calls Try.prog 6 #[.slice A n cap] w fun e w' => e = .returned (.bool true) ∧ Below w.heap.size w w' := by
  have hn2 : (200 : Int) < (n : Int) := by omega
  go_enter Try.func6, Try.ntmps6
  go_wp2_with fail
  refine (alive_any _).mono ?_
  rintro e w1 ⟨rfl, hb1⟩
  go_wp2
  go_ret
  exact ⟨rfl, hb1⟩
theorem does_any (A : Option Addr) (n cap : Nat) (C : Nat → Cl) (w : World) (hR : ReadsC w w.heap.size A n C) :
    Calls Try.prog 6 #[.slice A n cap] w fun e w' => e = .returned (.bool true) ∧ Below w.heap.size w w' := by
  by_cases hn : n ≤ 200
  · exact does_main A n cap C w hR hn
  · exact does_a A n cap w (by omega)
end Go.Proofs.Ytmepipnledoinaa
