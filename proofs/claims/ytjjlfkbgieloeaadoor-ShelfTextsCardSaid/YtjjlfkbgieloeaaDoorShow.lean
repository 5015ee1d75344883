/- The contract of wide.Show: the digits. Conditions: a number of 128 bits. -/
import Derived.Test.YtjjlfkbgieloeaaDoorTen
import Derived.Test.YtjjlfkbgieloeaaDoorKit
import Derived.Deep.LoopGhost
import Derived.Lib.ConvBytes
import Derived.Laws.BytesArg
namespace Go.Proofs.YtjjlfkbgieloeaaDoor
open Go.RowKit
/-- decimal digits, the highest first -/
def decs (a : Nat) : List UInt8 := if a < 10 then [UInt8.ofNat (48 + a)] else decs (a / 10) ++ [UInt8.ofNat (48 + a % 10)]
termination_by a
decreasing_by omega
theorem decs_low (a : Nat) (h : a / 10 = 0) : decs a = [UInt8.ofNat (48 + a % 10)] := by
  rw [decs, if_pos (by omega), Nat.mod_eq_of_lt (by omega)]
theorem decs_high (a : Nat) (h : a / 10 ≠ 0) : decs a = decs (a / 10) ++ [UInt8.ofNat (48 + a % 10)] := by
  rw [decs, if_neg (by omega)]
theorem info5 : (Tryd.prog.info? 5).map (fun i => (i.zero, i.size, i.bytes)) = some (some (.int .u8 0), 1, 1) := by kernel_rfl
def u8s (l : List UInt8) : List Value := l.map fun b => .int .u8 b.toNat
theorem own_text {w : World} {base : Nat} {v : Value} {l : List UInt8} (h : w.ownsRow base 5 1 v l.length (u8s l)) : (convert 59 9 v).run Tryd.prog w = .ok (.string ⟨l.toArray⟩) w := by
  rcases h.2 with ⟨rfl, hn⟩ | ⟨g, cap, cur, rfl, _⟩
  · obtain rfl : l = [] := List.eq_nil_of_length_eq_zero hn
    exact run_convert_bytes_nil w 59 5 Tryd.underlying59 Tryd.underlying5 0 0 9 Tryd.underlying9
  · have e := run_convert_bytes_arg (P := Tryd.prog) w 59 5 Tryd.underlying59 Tryd.underlying5 g 0 l.length cap (l.map fun b => (b.toNat : Int)) (by simp) (fun i hi => by
      have hc := h.cells (g := g) rfl i (.int .u8 (((l.map fun b => (b.toNat : Int)).getD i 0))) (by simp [u8s, List.getD_eq_getElem?_getD, List.getElem?_map, List.getElem?_eq_getElem hi])
      have ha : (⟨g, 0, none⟩ : Addr).add i = ⟨g, 0 + i, none⟩ := by unfold Addr.add; split <;> simp_all
      rwa [ha] at hc) 9 Tryd.underlying9
    rw [e]
    unfold strOfNums
    rw [List.map_map, show ((fun n : Int => UInt8.ofNat n.toNat) ∘ fun b : UInt8 => (b.toNat : Int)) = id from funext fun b => by simp, List.map_id]
structure ShowInv (w : World) (a x : Nat) (wr : World) (l : List UInt8) (A : Option Addr) (c : Nat) : Prop where
  own : wr.ownsRow (w.heap.size + 1) 5 1 (.slice A l.length c) l.length (u8s l)
  dec : l = [] ∧ x = a ∨ x ≠ 0 ∧ decs a = decs x ++ l
  pow : x * 10 ^ l.length ≤ a
  blk : Blk wr w.heap.size 24 #[.int .u64 (hi x), .int .u64 (lo x)]
  bel : Below w.heap.size w wr
def ShowRel (w : World) (a x : Nat) (v : Value) (wr : World) : Prop := ∃ l A c, v = .slice A (List.length l) c ∧ ShowInv w a x wr l A c
/-- the world behind a round's division and its new row of one -/
def w3 (w1 : World) (g : Nat) (y d : Nat) : World := ((w1.setCell ⟨g, 0, none⟩ (.int .u64 (hi y))).setCell ⟨g, 1, none⟩ (.int .u64 (lo y))).alloc (.cells #[.int .u8 (48 + (d : Int))] 5)
theorem ShowInv.lit {w wr w1 : World} {a x : Nat} {l : List UInt8} {A : Option Addr} {c : Nat} (s : ShowInv w a x wr l A c) (hb : Below wr.heap.size wr w1) (y d : Nat) :
    (w3 w1 w.heap.size y d).ownsRow (w.heap.size + 1) 5 1 (.slice (some ⟨w1.heap.size, 0, none⟩) 1 1) 1 [.int .u8 (48 + (d : Int))] := by
  have h := own_lit ((w1.setCell ⟨w.heap.size, 0, none⟩ (.int .u64 (hi y))).setCell ⟨w.heap.size, 1, none⟩ (.int .u64 (lo y))) (w.heap.size + 1) 5 #[.int .u8 (48 + (d : Int))] (by
    have := s.blk.lt; have := hb.size; simp [World.setCell]; omega) (by simp [maxLen])
  simpa [World.setCell, w3] using h
theorem ShowInv.reads {w wr w1 : World} {a x : Nat} {l : List UInt8} {A : Option Addr} {c : Nat} (s : ShowInv w a x wr l A c) (hb : Below wr.heap.size wr w1) (y d : Nat) :
    Reads (w3 w1 w.heap.size y d) (w3 w1 w.heap.size y d).heap.size 1 A l.length (u8s l) :=
  Reads.of_own (own_alloc (ownsRow_setCell_below (ownsRow_setCell_below (own_below s.own hb) (a := ⟨w.heap.size, 0, none⟩) (Nat.lt_succ_self _) _) (a := ⟨w.heap.size, 1, none⟩) (Nat.lt_succ_self _) _) _)
theorem ShowInv.blk2 {w wr w1 w' : World} {a x : Nat} {l : List UInt8} {A : Option Addr} {c : Nat} (s : ShowInv w a x wr l A c) (hb : Below wr.heap.size wr w1) {y d : Nat} (hg : (w3 w1 w.heap.size y d).grownBy w' (some w1.heap.size)) :
    Blk w' w.heap.size 24 #[.int .u64 (hi y), .int .u64 (lo y)] := by
  have h1 := s.blk.below hb s.blk.lt
  have hlt := s.blk.lt
  have hsz := hb.size
  have h2 := ((h1.set_ 0 (.int .u64 (hi y))).set_ 1 (.int .u64 (lo y))).alloc (.cells #[.int .u8 (48 + (d : Int))] 5)
  refine Blk.grown (w := w3 w1 w.heap.size y d) h2 hg ?_
  intro e
  injection e with e
  omega
theorem ShowInv.bel2 {w wr w1 w' : World} {a x : Nat} {l : List UInt8} {A : Option Addr} {c : Nat} (s : ShowInv w a x wr l A c) (hb : Below wr.heap.size wr w1) {y d : Nat} (hg : (w3 w1 w.heap.size y d).grownBy w' (some w1.heap.size)) :
    Below w.heap.size w w' := by
  have h1 := below_on s.bel hb
  have h3 : Below w.heap.size w (w3 w1 w.heap.size y d) := below_al (below_set (below_set h1 (Nat.le_refl _)) (Nat.le_refl _)) _
  refine h3.grown hg h3.size (fun k hk => ?_)
  injection hk with hk
  have := h1.size
  omega
theorem w3_base {w wr w1 : World} {a x : Nat} {l : List UInt8} {A : Option Addr} {c : Nat} (s : ShowInv w a x wr l A c) (hb : Below wr.heap.size wr w1) {y d : Nat} : w.heap.size + 1 ≤ (w3 w1 w.heap.size y d).heap.size := by
  have := s.blk.lt
  have := hb.size
  have e : (w3 w1 w.heap.size y d).heap.size = w1.heap.size + 1 := by simp [w3, World.setCell]
  omega
theorem ShowInv.next {w wr w4 : World} {a x : Nat} {l : List UInt8} {A A' : Option Addr} {c c' : Nat} (s : ShowInv w a x wr l A c) {d : Nat} (hd : x % 10 = d) (h0 : x / 10 ≠ 0)
    (hown : w4.ownsRow (w.heap.size + 1) 5 1 (.slice A' (1 + l.length) c') (1 + l.length) ([.int .u8 (48 + (d : Int))] ++ u8s l)) (hblk : Blk w4 w.heap.size 24 #[.int .u64 (hi (x / 10)), .int .u64 (lo (x / 10))]) (hbel : Below w.heap.size w w4) :
    ShowInv w a (x / 10) w4 (UInt8.ofNat (48 + d) :: l) A' c' := by
  have e1 : (UInt8.ofNat (48 + d) :: l).length = 1 + l.length := by simp [Nat.add_comm]
  have e2 : u8s (UInt8.ofNat (48 + d) :: l) = [.int .u8 (48 + (d : Int))] ++ u8s l := by
    simp [u8s]
    omega
  refine ⟨by rw [e1, e2]; exact hown, .inr ⟨h0, ?_⟩, ?_, hblk, hbel⟩
  · rcases s.dec with ⟨rfl, rfl⟩ | ⟨_, h⟩
    · rw [decs_high x h0, hd]
    · rw [h, decs_high x h0, hd]; simp
  · have := s.pow
    rw [e1, Nat.add_comm, Nat.pow_succ, Nat.mul_comm (10 ^ l.length), ← Nat.mul_assoc]
    exact Nat.le_trans (Nat.mul_le_mul_right _ (Nat.div_mul_le_self x 10)) this
theorem ShowInv.last {w wr w4 : World} {a x : Nat} {l : List UInt8} {A : Option Addr} {c : Nat} {v : Value} (s : ShowInv w a x wr l A c) {d : Nat} (hd : x % 10 = d) (h0 : x / 10 = 0)
    (hown : w4.ownsRow (w.heap.size + 1) 5 1 v (1 + l.length) ([.int .u8 (48 + (d : Int))] ++ u8s l)) : (convert 59 9 v).run Tryd.prog w4 = .ok (.string ⟨(decs a).toArray⟩) w4 := by
  have e1 : (UInt8.ofNat (48 + d) :: l).length = 1 + l.length := by simp [Nat.add_comm]
  have e2 : u8s (UInt8.ofNat (48 + d) :: l) = [.int .u8 (48 + (d : Int))] ++ u8s l := by
    simp [u8s]
    omega
  have e3 : decs a = UInt8.ofNat (48 + d) :: l := by
    rcases s.dec with ⟨rfl, rfl⟩ | ⟨_, h⟩
    · rw [decs_low x h0, hd]
    · rw [h, decs_low x h0, hd]; simp
  rw [e3]
  refine own_text (base := w.heap.size + 1) ?_
  rw [e1, e2]
  exact hown
theorem ShowInv.len {w wr : World} {a x : Nat} {l : List UInt8} {A : Option Addr} {c : Nat} (s : ShowInv w a x wr l A c) (ha : a < M) : l.length ≤ 40 := by
  rcases s.dec with ⟨rfl, _⟩ | ⟨h0, _⟩
  · simp
  · rcases Nat.lt_or_ge 40 l.length with h | h
    · have h1 : 10 ^ 40 ≤ 10 ^ l.length := Nat.pow_le_pow_right (by omega) (by omega)
      have h2 := s.pow
      have h3 : 1 * 10 ^ l.length ≤ x * 10 ^ l.length := Nat.mul_le_mul_right _ (by omega)
      unfold M at ha
      omega
    · exact h
theorem u8s_one (l : List UInt8) : ∀ u ∈ u8s l, u.oneCell' = true := by
  intro u hu
  simp only [u8s, List.mem_map] at hu
  obtain ⟨b, _, rfl⟩ := hu
  rfl
theorem zero_yes (a : Nat) (w : World) (h : a = 0) : Calls Tryd.prog 19 #[A a] w fun e w' => e = .returned (.bool true) ∧ Below w.heap.size w w' := (zero_any a w).mono fun _ _ ⟨he, hw⟩ => ⟨by rw [he, decide_eq_true h], hw⟩
theorem zero_no (a : Nat) (w : World) (h : ¬ a = 0) : Calls Tryd.prog 19 #[A a] w fun e w' => e = .returned (.bool false) ∧ Below w.heap.size w w' := (zero_any a w).mono fun _ _ ⟨he, hw⟩ => ⟨by rw [he, decide_eq_false h], hw⟩
set_option maxHeartbeats 1000000 in
set_option maxRecDepth 100000 in
theorem show_any (a : Nat) (w : World) (ha : a < M) :
    Calls Tryd.prog 35 #[A a] w fun e w' => e = .returned (.string ⟨(decs a).toArray⟩) ∧ Below w.heap.size w w' := by
  obtain ⟨i0, hi0, hz0, hz1, hz2⟩ := info_parts info5
  have HA := Lib.hid ha
  clear ha
  go_enter Tryd.func35, Tryd.ntmps35
  go_wp2
  go_loopg [3] a (fun x v wr => ShowRel w a x v wr)
  case atStart => exact ⟨[], none, 0, rfl, ⟨⟨rfl, .inl ⟨rfl, rfl⟩⟩, .inl ⟨rfl, rfl⟩, by simp, heap_alloc_new w _, below_al (Below.refl _ _) _⟩⟩
  case round =>
    obtain ⟨l, A1, c, rfl, hinv⟩ := hrel
    obtain ⟨hown, hdec, hpow, hblk, hbel⟩ := id hinv
    have HI := Lib.hid hinv
    clear hinv
    have hx : gk < M := by
      have h1 : gk * 1 ≤ gk * 10 ^ l.length := Nat.mul_le_mul_left _ (Nat.pow_pos (by omega))
      have := HA.out
      omega
    have HX := Lib.hid hx
    have hc0 := hblk.cell 0
    have hc1 := hblk.cell 1
    have hf0 := hblk.frozen 0
    have hf1 := hblk.frozen 1
    have hlt := hblk.lt
    have HP := Lib.hid hpow
    have HD := Lib.hid hdec
    have hd9 : ((gk % 10 : Nat) : Int) ≤ 9 := by omega
    obtain ⟨d, hd⟩ : ∃ d, gk % 10 = d := ⟨_, rfl⟩
    rw [hd] at hd9
    have HDD := Lib.hid hd
    clear hx hpow hdec
    have hlen := HI.out.len HA.out
    have h1 := u8s_one l
    have H1 := Lib.hid h1
    clear h1
    by_cases h0 : gk / 10 = 0
    · have H0 := Lib.hid h0
      clear h0
      go_wp2_with (first | (go_at_call 49; refine (ten_any gk _ HX.out).mono ?_; rintro e w1 ⟨rfl, hb1⟩; have hc0' := (hblk.below hb1 hlt).cell 0; have hc1' := (hblk.below hb1 hlt).cell 1; have hf0' := (hblk.below hb1 hlt).frozen 0; have hf1' := (hblk.below hb1 hlt).frozen 1; clear hc0 hc1 hf0 hf1) | (at_builtin; go_must (refine wpList_append_any _ rfl (.tmp 12) (.tmp 13) 59 rfl (w.heap.size + 1) 5 i0 _ 1 1 Tryd.underlying59 hi0 hz0 hz1 hz2 rfl (by omega) (.slice (some ⟨w1.heap.size, 0, none⟩) 1 1) 1 [.int .u8 (48 + (d : Int))] rfl (HI.out.lit hb1 (gk / 10) d) _ A1 l.length c (u8s l) rfl (HI.out.reads hb1 (gk / 10) d) H1.out ?h63 ?hbytes ?hbase ?_); (case h63 => simp only [maxLen]; omega); (case hbytes => omega); (case hbase => exact w3_base HI.out hb1); intro v' w' hown' hg' hat'; obtain ⟨g1, cap1, rfl, hg1, hg1lt⟩ := hown'.form (by omega); have hbk := HI.out.blk2 hb1 hg'; have hk0 := hbk.cell 0; have hk1 := hbk.cell 1; clear hbk) | (go_at_call 19; refine (zero_yes (gk / 10) _ H0.out).mono ?_; rintro e w4 ⟨rfl, hb4⟩; have hcv := HI.out.last HDD.out H0.out (own_below hown' hb4)))
      go_ret
      exact ⟨rfl, below_on (HI.out.bel2 hb1 hg') hb4⟩
    · have H0 := Lib.hid h0
      clear h0
      go_wp2_with (first | (go_at_call 49; refine (ten_any gk _ HX.out).mono ?_; rintro e w1 ⟨rfl, hb1⟩; have hc0' := (hblk.below hb1 hlt).cell 0; have hc1' := (hblk.below hb1 hlt).cell 1; have hf0' := (hblk.below hb1 hlt).frozen 0; have hf1' := (hblk.below hb1 hlt).frozen 1; clear hc0 hc1 hf0 hf1) | (at_builtin; go_must (refine wpList_append_any _ rfl (.tmp 12) (.tmp 13) 59 rfl (w.heap.size + 1) 5 i0 _ 1 1 Tryd.underlying59 hi0 hz0 hz1 hz2 rfl (by omega) (.slice (some ⟨w1.heap.size, 0, none⟩) 1 1) 1 [.int .u8 (48 + (d : Int))] rfl (HI.out.lit hb1 (gk / 10) d) _ A1 l.length c (u8s l) rfl (HI.out.reads hb1 (gk / 10) d) H1.out ?h63 ?hbytes ?hbase ?_); (case h63 => simp only [maxLen]; omega); (case hbytes => omega); (case hbase => exact w3_base HI.out hb1); intro v' w' hown' hg' hat'; obtain ⟨g1, cap1, rfl, hg1, hg1lt⟩ := hown'.form (by omega); have hbk := HI.out.blk2 hb1 hg'; have hk0 := hbk.cell 0; have hk1 := hbk.cell 1; clear hbk) | (go_at_call 19; refine (zero_no (gk / 10) _ H0.out).mono ?_; rintro e w4 ⟨rfl, hb4⟩))
      go_roundg (gk / 10)
      case measure => have := H0.out; omega
      case rel => exact ⟨_, _, _, by simp [Nat.add_comm], HI.out.next HDD.out H0.out (own_below hown' hb4) ((HI.out.blk2 hb1 hg').below hb4 (HI.out.blk2 hb1 hg').lt) (below_on (HI.out.bel2 hb1 hg') hb4)⟩
end Go.Proofs.YtjjlfkbgieloeaaDoor
