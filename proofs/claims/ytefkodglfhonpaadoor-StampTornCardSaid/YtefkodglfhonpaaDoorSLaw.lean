/- What stamp.Read answers, of all texts: what it reads is just the bytes of a leaf that can be. Conditions: none. -/
import Derived.Test.YtefkodglfhonpaaDoorSRead
namespace Go.Proofs.YtefkodglfhonpaaDoor
open Go.RowKit Go.PlainAid
theorem mod16 (n : Nat) (h : n < 65536) : n % 2 ^ (8 * 2) = n := by
  have e : (2 : Nat) ^ (8 * 2) = 65536 := by decide
  rw [e]
  exact Nat.mod_eq_of_lt h
theorem num_small (l : List UInt8) (h : l.length ≤ 7) : num l = (Pl.lev l : Int) := by
  have h1 := Pl.lev_lt l
  have h2 : (2 : Nat) ^ (8 * l.length) ≤ 2 ^ 56 := Nat.pow_le_pow_right (by omega) (by omega)
  have h3 : (2 : Nat) ^ 56 = 72057594037927936 := by decide
  exact IntWalk.wrap64_in _ (by omega)
theorem num_le (n : Nat) (h : n ≤ 1152921504606846976) : num (Pl.le 8 n) = (n : Int) := by
  unfold num
  rw [Pl.lev_le]
  have h3 : (2 : Nat) ^ (8 * 8) = 18446744073709551616 := by decide
  rw [h3, Nat.mod_eq_of_lt (by omega)]
  exact IntWalk.wrap64_in _ (by omega)
theorem num_inj {a b : List UInt8} (ha : a.length = 8) (hb : b.length = 8) (h : num a = num b) : a = b := by
  have h1 := Pl.lev_lt a
  have h2 := Pl.lev_lt b
  rw [ha] at h1
  rw [hb] at h2
  have h3 : (2 : Nat) ^ (8 * 8) = 18446744073709551616 := by decide
  have e : Pl.lev a = Pl.lev b := by
    unfold num wrap64 at h
    omega
  rw [← Pl.le_of 8 a ha, e, Pl.le_of 8 b hb]
theorem num_pos {a : List UInt8} (ha : a.length = 8) (h1 : 1 ≤ num a) : num a = (Pl.lev a : Int) := by
  have h1 := Pl.lev_lt a
  rw [ha] at h1
  have h3 : (2 : Nat) ^ (8 * 8) = 18446744073709551616 := by decide
  unfold num wrap64 at *
  omega
theorem drop_nil' {p : UInt8 → Bool} : ∀ (m : List UInt8), m.dropWhile p = [] → ∀ y ∈ m, p y = true := by
  intro m
  induction m with
  | nil => intro _ y hy; simp at hy
  | cons a m ih =>
    intro hm y hy
    by_cases ha : p a = true
    · rw [List.dropWhile_cons_of_pos ha] at hm
      rcases List.mem_cons.1 hy with rfl | hy
      · exact ha
      · exact ih hm y hy
    · rw [List.dropWhile_cons_of_neg ha] at hm
      simp at hm
theorem trim_rep (n : Nat) : Lib.trimB (List.replicate n 0) 0 = [] := by
  unfold Lib.trimB Lib.trimRightB Lib.trimLeftB
  rw [List.reverse_replicate, List.dropWhile_replicate]
  simp
theorem trim_nil (l : List UInt8) (h : Lib.trimB l 0 = []) : l = List.replicate l.length 0 := by
  rw [List.eq_replicate_iff]
  refine ⟨rfl, fun x hx => ?_⟩
  unfold Lib.trimB Lib.trimRightB Lib.trimLeftB at h
  have h1 := drop_nil' _ h
  have h2 : l.reverse.dropWhile (· == (0 : UInt8)) = [] := by
    rcases hd : l.reverse.dropWhile (· == (0 : UInt8)) with _ | ⟨a, t⟩
    · rfl
    · exfalso
      have h3 : a ∈ (l.reverse.dropWhile (· == (0 : UInt8))).reverse := by rw [hd]; simp
      have h4 := h1 a h3
      have h5 := List.head_dropWhile_not (p := (· == (0 : UInt8))) (l := l.reverse) (by rw [hd]; simp)
      simp only [hd, List.head_cons] at h5
      rw [h5] at h4
      cases h4
  have h3 := drop_nil' _ h2 x (by simpa using hx)
  simpa using h3
theorem holds_is (s : ByteArray) (b : Bool) (hs : s.size = 128) (h : holdsB (s.extract 0 120) = b) (w : World) : Calls Tryd.prog 12 #[.string (s.extract 0 120)] w fun e w' => e = .returned (.bool b) ∧ Below w.heap.size w w' := by
  subst h
  have : (s.extract 0 120).size = 120 := by rw [ByteArray.size_extract]; omega
  exact holds_many _ (by omega) (by omega) w
theorem holds_crc (s : ByteArray) (hs : s.size = 128) : holdsB (s.extract 0 120) = (crc (s.data.toList.take 116) == (s.data.toList.drop 116).take 4) := by
  have h1 : (s.extract 0 120).size = 120 := by rw [ByteArray.size_extract]; omega
  rw [holdsB_eq _ (by omega), h1, ext_take, List.take_take]
  show (crc _ == _) = _
  have e : (List.take 120 s.data.toList).drop (120 - 4) = (s.data.toList.drop 116).take 4 := by rw [List.drop_take]
  rw [e]
  rfl
abbrev badV : Value := .tuple #[.agg #[.int .i64 0, .int .i64 0, .string ⟨#[]⟩], .bool false]
abbrev okV (n i : Int) (d : ByteArray) : Value := .tuple #[.agg #[.int .i64 n, .int .i64 i, .string d], .bool true]
def Reads7 (s : ByteArray) (v : Value) : Prop := ∀ w : World, Calls Tryd.prog 7 #[.string s] w fun e w' => e = .returned v ∧ Below w.heap.size w w'
theorem leaf_parts {n i : Int} {d : ByteArray} (h : isLeaf n i d = true) : 1 ≤ n ∧ n ≤ 1152921504606846976 ∧ 0 ≤ i ∧ i < 4096 ∧ d.size ≤ 104 := by
  unfold isLeaf at h
  simp only [Bool.and_eq_true, decide_eq_true_eq] at h
  exact ⟨h.1.1.1.1, h.1.1.1.2, h.1.1.2, h.1.2, h.2⟩
theorem trim_is (rest tr : ByteArray) (h : tr = ⟨(Lib.trimB rest.data.toList 0).toArray⟩) (hs : rest.size ≤ 200) (w : World) : Calls Tryd.prog 16 #[.string rest, .string ⟨#[0]⟩] w fun e w' => e = .returned (.string tr) ∧ Below w.heap.size w w' := by
  subst h
  refine (Tryd.strings_Trim_one rest 0 (by decide) w (by omega)).mono fun e w' ⟨he, hw⟩ => ⟨he, ?_⟩
  rcases hw with rfl | rfl
  · exact Below.refl _ _
  · exact (Below.refl _ _).drew
theorem sread_any (s : ByteArray) :
    (Reads7 s badV ∧ ∀ (n i : Nat) (d : ByteArray), isLeaf n i d = true → s ≠ SL (Pl.enc crc n i d.data.toList)) ∨
    ∃ (n i : Nat) (d : ByteArray), isLeaf n i d = true ∧ s = SL (Pl.enc crc n i d.data.toList) ∧ Reads7 s (okV n i d) := by
  have henc : ∀ (n i : Nat) (d : ByteArray), isLeaf n i d = true → s = SL (Pl.enc crc n i d.data.toList) → s.data.toList = Pl.enc crc n i d.data.toList ∧ s.size = 128 ∧ d.data.toList.length ≤ 104 := by
    intro n i d hg he
    have hd : d.data.toList.length ≤ 104 := (leaf_parts hg).2.2.2.2
    refine ⟨by rw [he]; simp [SL], by rw [he, SL_size, Pl.enc_length crc crc_length _ _ _ hd], hd⟩
  by_cases h128 : s.size = 128
  case neg => exact .inl ⟨fun w => read_a s w h128, fun n i d hg he => h128 (henc n i d hg he).2.1⟩
  obtain ⟨L, hL⟩ : ∃ L, s.data.toList = L := ⟨_, rfl⟩
  have hll : L.length = 128 := by rw [← hL]; exact h128
  have hcrc := holds_crc s h128
  cases hb : holdsB (s.extract 0 120)
  · refine .inl ⟨fun w => read_b s w h128 (holds_is s false h128 hb), fun n i d hg he => ?_⟩
    obtain ⟨e1, _, hd⟩ := henc n i d hg he
    rw [hb, e1, ← Pl.enc_sum crc_length hd] at hcrc
    simp at hcrc
  have HH := holds_is s true h128 hb
  rw [hb, hL] at hcrc
  have hsum : crc (L.take 116) = (L.drop 116).take 4 := by simpa using hcrc.symm
  obtain ⟨s1, h1⟩ : ∃ t, t = s.extract 8 s.size := ⟨_, rfl⟩
  have l1 : s1.data.toList = L.drop 8 := by rw [h1, ext_drop, hL]
  have z1 : s1.size = 120 := by rw [h1, ByteArray.size_extract]; omega
  obtain ⟨s2, h2⟩ : ∃ t, t = s1.extract 2 s1.size := ⟨_, rfl⟩
  have l2 : s2.data.toList = L.drop 10 := by rw [h2, ext_drop, l1, List.drop_drop]
  have z2 : s2.size = 118 := by rw [h2, ByteArray.size_extract]; omega
  obtain ⟨s3, h3⟩ : ∃ t, t = s2.extract 2 s2.size := ⟨_, rfl⟩
  have l3 : s3.data.toList = L.drop 12 := by rw [h3, ext_drop, l2, List.drop_drop]
  have z3 : s3.size = 116 := by rw [h3, ByteArray.size_extract]; omega
  obtain ⟨k, hk⟩ : ∃ k, k = Pl.lev ((L.drop 10).take 2) := ⟨_, rfl⟩
  have kk : num ((L.drop 10).take 2) = (k : Int) := by rw [hk]; exact num_small _ (by simp; omega)
  have R1 : ∀ w r, Blk w r 54 #[.string s, .bool false] → Calls Tryd.prog 14 #[.pointer (some ⟨r, 0, none⟩), .int .i64 8] w fun e w' => e = .returned (.int .i64 (num (L.take 8))) ∧ Blk w' r 54 #[.string s1, .bool false] ∧ w.grownBy w' (some r) := fun w r hr => by
    have := rint_s s 8 r w (.inr rfl) (by omega) hr
    rwa [hL, ← h1] at this
  have R2 : ∀ w r, Blk w r 54 #[.string s1, .bool false] → Calls Tryd.prog 14 #[.pointer (some ⟨r, 0, none⟩), .int .i64 2] w fun e w' => e = .returned (.int .i64 (num ((L.drop 8).take 2))) ∧ Blk w' r 54 #[.string s2, .bool false] ∧ w.grownBy w' (some r) := fun w r hr => by
    have := rint_s s1 2 r w (.inl rfl) (by omega) hr
    rwa [l1, ← h2] at this
  have R3 : ∀ w r, Blk w r 54 #[.string s2, .bool false] → Calls Tryd.prog 14 #[.pointer (some ⟨r, 0, none⟩), .int .i64 2] w fun e w' => e = .returned (.int .i64 (k : Int)) ∧ Blk w' r 54 #[.string s3, .bool false] ∧ w.grownBy w' (some r) := fun w r hr => by
    have := rint_s s2 2 r w (.inl rfl) (by omega) hr
    rwa [l2, ← h3, kk] at this
  by_cases hk104 : k ≤ 104
  case neg =>
    refine .inl ⟨fun w => read_c s s1 s2 s3 s s s s s s s s _ _ 0 k 0 w h128 HH R1 R2 R3 (by omega), fun n i d hg he => ?_⟩
    obtain ⟨e1, _, hd⟩ := henc n i d hg he
    rw [hL] at e1
    rw [e1, Pl.enc_len, Pl.lev_le] at hk
    have := Nat.mod_le d.data.toList.length (2 ^ (8 * 2))
    omega
  obtain ⟨c, hc⟩ : ∃ c : Nat, c = 104 - k := ⟨_, rfl⟩
  have hc' : (104 : Int) - (k : Int) = (c : Int) := by omega
  obtain ⟨d, hd⟩ : ∃ t, t = s3.extract 0 k := ⟨_, rfl⟩
  have ld : d.data.toList = (L.drop 12).take k := by rw [hd, ext_take, l3]
  have zd : d.size = k := by rw [hd, ByteArray.size_extract]; omega
  obtain ⟨s4, h4⟩ : ∃ t, t = s3.extract k s3.size := ⟨_, rfl⟩
  have l4 : s4.data.toList = L.drop (12 + k) := by rw [h4, ext_drop, l3, List.drop_drop]
  have z4 : s4.size = 116 - k := by rw [h4, ByteArray.size_extract]; omega
  obtain ⟨rest, hr⟩ : ∃ t, t = s4.extract 0 c := ⟨_, rfl⟩
  have lr : rest.data.toList = (L.drop (12 + k)).take c := by rw [hr, ext_take, l4]
  have zr : rest.size = c := by rw [hr, ByteArray.size_extract]; omega
  obtain ⟨s5, h5⟩ : ∃ t, t = s4.extract c s4.size := ⟨_, rfl⟩
  have l5 : s5.data.toList = L.drop 116 := by rw [h5, ext_drop, l4, List.drop_drop]; congr 1; omega
  have z5 : s5.size = 12 := by rw [h5, ByteArray.size_extract]; omega
  obtain ⟨s6, h6⟩ : ∃ t, t = s5.extract 4 s5.size := ⟨_, rfl⟩
  have l6 : s6.data.toList = L.drop 120 := by rw [h6, ext_drop, l5, List.drop_drop]
  have z6 : s6.size = 8 := by rw [h6, ByteArray.size_extract]; omega
  have l6' : s6.data.toList.take 8 = L.drop 120 := by rw [l6]; exact List.take_of_length_le (by simp; omega)
  have R4 : ∀ w r, Blk w r 54 #[.string s3, .bool false] → Calls Tryd.prog 15 #[.pointer (some ⟨r, 0, none⟩), .int .i64 k] w fun e w' => e = .returned (.string d) ∧ Blk w' r 54 #[.string s4, .bool false] ∧ w.grownBy w' (some r) := fun w r hr => by
    have := raw_s s3 k r w (by omega) hr
    rwa [← hd, ← h4] at this
  have R5 : ∀ w r, Blk w r 54 #[.string s4, .bool false] → Calls Tryd.prog 15 #[.pointer (some ⟨r, 0, none⟩), .int .i64 c] w fun e w' => e = .returned (.string rest) ∧ Blk w' r 54 #[.string s5, .bool false] ∧ w.grownBy w' (some r) := fun w r hx => by
    have := raw_s s4 c r w (by omega) hx
    rwa [← hr, ← h5] at this
  have R6 : ∀ w r, Blk w r 54 #[.string s5, .bool false] → Calls Tryd.prog 15 #[.pointer (some ⟨r, 0, none⟩), .int .i64 4] w fun e w' => e = .returned (.string (s5.extract 0 4)) ∧ Blk w' r 54 #[.string s6, .bool false] ∧ w.grownBy w' (some r) := fun w r hx => by
    have := raw_s s5 4 r w (by omega) hx
    rwa [← h6] at this
  have R7 : ∀ w r, Blk w r 54 #[.string s6, .bool false] → Calls Tryd.prog 14 #[.pointer (some ⟨r, 0, none⟩), .int .i64 8] w fun e w' => e = .returned (.int .i64 (num (L.drop 120))) ∧ Blk w' r 54 #[.string (s6.extract 8 s6.size), .bool false] ∧ w.grownBy w' (some r) := fun w r hx => by
    have := rint_s s6 8 r w (.inr rfl) (by omega) hx
    rwa [l6'] at this
  by_cases hlast : num (L.drop 120) = num (L.take 8)
  case neg =>
    refine .inl ⟨fun w => read_d s s1 s2 s3 s4 s5 s6 _ d rest _ s _ _ _ k c w h128 HH R1 R2 R3 R4 R5 R6 R7 hc' hk104 (by simpa using hlast) (by simpa using hlast), fun n i d hg he => ?_⟩
    obtain ⟨e1, _, hd⟩ := henc n i d hg he
    rw [hL] at e1
    rw [e1, Pl.enc_last crc_length hd, Pl.enc_num] at hlast
    exact hlast rfl
  rw [hlast] at R7
  obtain ⟨tr, htr⟩ : ∃ tr : ByteArray, tr = ⟨(Lib.trimB rest.data.toList 0).toArray⟩ := ⟨_, rfl⟩
  have HT := trim_is rest tr htr (by omega)
  by_cases h0 : Lib.trimB rest.data.toList 0 = []
  case neg =>
    have hne : tr.toList.isEmpty = false := by
      rw [ByteArray.toList_eq, htr]
      simpa using h0
    refine .inl ⟨fun w => read_e s s1 s2 s3 s4 s5 s6 _ d rest _ tr _ _ 0 k c w h128 HH R1 R2 R3 R4 R5 R6 R7 HT hc' hk104 hne, fun n i d' hg he => ?_⟩
    obtain ⟨e1, _, hd'⟩ := henc n i d' hg he
    rw [hL] at e1
    have hkd : k = d'.data.toList.length := by
      rw [e1, Pl.enc_len, Pl.lev_le] at hk
      rw [hk, mod16 _ (by omega)]
    rw [lr, hc, hkd, e1, Pl.enc_rest, trim_rep] at h0
    exact h0 rfl
  have htr0 : tr = ⟨#[]⟩ := by rw [htr, h0]
  rw [htr0] at HT
  have hrest := trim_nil _ h0
  have hlr : rest.data.toList.length = c := zr
  rw [hlr, lr, hc] at hrest
  cases hg : isLeaf (num (L.take 8)) (num ((L.drop 8).take 2)) d
  · have HG := fun w => good_is _ _ d false w hg
    refine .inl ⟨fun w => read_f s s1 s2 s3 s4 s5 s6 _ d rest _ s _ _ 0 k c w h128 HH R1 R2 R3 R4 R5 R6 R7 HT HG hc' hk104, fun n i d' hg' he => ?_⟩
    obtain ⟨e1, _, hd'⟩ := henc n i d' hg' he
    obtain ⟨p1, p2, p3, p4, p5⟩ := leaf_parts hg'
    rw [hL] at e1
    have hkd : k = d'.data.toList.length := by
      rw [e1, Pl.enc_len, Pl.lev_le] at hk
      rw [hk, mod16 _ (by omega)]
    have edd : d = d' := by
      apply ByteArray.ext
      apply Array.toList_inj.1
      rw [ld, hkd, e1, Pl.enc_data]
    have en : num (L.take 8) = n := by rw [e1, Pl.enc_num]; exact num_le n (by omega)
    have ei : num ((L.drop 8).take 2) = i := by
      rw [e1, Pl.enc_idx, num_small _ (by rw [Pl.le_length]; omega), Pl.lev_le, mod16 _ (by omega)]
    rw [edd, en, ei, hg'] at hg
    cases hg
  · have HG := fun w => good_is _ _ d true w hg
    obtain ⟨p1, p2, p3, p4, p5⟩ := leaf_parts hg
    have en : num (L.take 8) = (Pl.lev (L.take 8) : Int) := num_pos (by simp; omega) p1
    have ei : num ((L.drop 8).take 2) = (Pl.lev ((L.drop 8).take 2) : Int) := num_small _ (by simp; omega)
    have hdl := num_inj (by simp; omega) (by simp; omega) hlast
    have hdec := Pl.dec_enc (c := crc) hll hsum hk hk104 hrest hdl
    refine .inr ⟨Pl.lev (L.take 8), Pl.lev ((L.drop 8).take 2), d, ?_, ?_, fun w => ?_⟩
    · rw [← en, ← ei]; exact hg
    · rw [ld, ← hdec, ← hL, SL_data]
    · have := read_g s s1 s2 s3 s4 s5 s6 _ d rest _ s _ _ 0 k c w h128 HH R1 R2 R3 R4 R5 R6 R7 HT HG hc' hk104
      rwa [en, ei] at this
/-- a leaf's bytes are read as that leaf -/
theorem sread_enc (n i : Nat) (d : ByteArray) (h : isLeaf n i d = true) : Reads7 (SL (Pl.enc crc n i d.data.toList)) (okV n i d) := by
  rcases sread_any (SL (Pl.enc crc n i d.data.toList)) with ⟨_, h2⟩ | ⟨n', i', d', hg, he, hr⟩
  · exact absurd rfl (h2 n i d h)
  · obtain ⟨p1, p2, p3, p4, p5⟩ := leaf_parts h
    obtain ⟨q1, q2, q3, q4, q5⟩ := leaf_parts hg
    have e : Pl.enc crc n i d.data.toList = Pl.enc crc n' i' d'.data.toList := by
      have := congrArg (fun b : ByteArray => b.data.toList) he
      simpa [SL] using this
    have b64 : (2 : Nat) ^ 64 = 18446744073709551616 := by decide
    have b16 : (2 : Nat) ^ 16 = 65536 := by decide
    obtain ⟨e1, e2, e3⟩ := Pl.enc_inj (c := crc) p5 q5 (by omega) (by omega) (by omega) (by omega) e
    have ed : d = d' := ByteArray.ext (Array.toList_inj.1 e3)
    subst e1 e2 ed
    exact hr
end Go.Proofs.YtefkodglfhonpaaDoor
