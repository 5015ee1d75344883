/- The contract of bondstorelaw13.alive, and the words of the laws of queues. Conditions: none. -/
import Derived.Test.YtmepipnledoinaaQDrop
namespace Go.Proofs.Ytmepipnledoinaa
open Go.RowKit Go.BigFrame
theorem g_mem {h : List It} {i : Nat} (hi : i < h.length) : Heap.g h i ∈ h := by rw [Heap.g_get h i hi]; exact List.getElem_mem hi
theorem min_is {h : List It} (ho : Heap.Ok lt h) {x : It} (hx : x ∈ h) (hm : ∀ y ∈ h, y = x ∨ lt x y = true) : Heap.g h 0 = x := by
  have h0 : 0 < h.length := List.length_pos_of_mem hx
  rcases hm _ (g_mem h0) with e | e
  · exact e
  · obtain ⟨j, hj, ej⟩ := Heap.mem_g h x hx
    have := ho.first lt_ord j hj
    rw [ej, e] at this
    cases this
theorem ok_nil : Heap.Ok lt ([] : List It) := fun j j0 jl => by simp at jl
/-- what a queue's own blocks are: the law's base, the queue's block, its row's -/
structure Mine (w0 w : World) (B q : Nat) (b : Option Nat) (h : List It) : Prop where
  at_ : QAt w B q b h
  ok : Heap.Ok lt h
  base : w0.heap.size ≤ q
  row : ∀ g, b = some g → B ≤ g
  bel : Below w0.heap.size w0 w
section
variable {w0 w w' : World} {B q : Nat} {b : Option Nat} {h h' : List It}
theorem Mine.new (w0 w : World) (hb : Below w0.heap.size w0 w) : Mine w0 (w.alloc (.cells #[.slice none 0 0] 27)) (w.heap.size + 1) w.heap.size none [] :=
  ⟨QAt.new w, ok_nil, hb.size, (fun g e => by cases e), hb.alloc hb.size _⟩
theorem Mine.row_lt (m : Mine w0 w B q b h) : ∀ g, b = some g → g < w.heap.size := by
  intro g e
  obtain ⟨v, r1, r2, r3⟩ := m.at_.row
  exact (r2.lt g (by rw [r3, e])).2
theorem Mine.q_lt (m : Mine w0 w B q b h) : q < w.heap.size := by
  obtain ⟨v, r1, _⟩ := m.at_.row
  exact r1.lt
theorem Mine.below (m : Mine w0 w B q b h) (hb : Below w.heap.size w w') : Mine w0 w' B q b h := ⟨m.at_.below hb, m.ok, m.base, m.row, m.bel.trans (hb.mono m.bel.size)⟩
theorem Mine.bel_kp (m : Mine w0 w B q b h) (k : Kp w w' q b) : Below w0.heap.size w0 w' := by
  have hqb := m.at_.hq
  have hB := m.base
  exact m.bel.trans (k.below hB (fun g e => by have := m.row g e; omega) m.bel.size)
theorem Mine.took (m : Mine w0 w B q b h) (t : Took w w' B q b h') : Mine w0 w' B q b h' := ⟨t.at_, t.ok, m.base, m.row, m.bel_kp t.kp⟩
theorem Mine.left (m : Mine w0 w B q b h) (t : Left w w' B q b h') : ∃ b', Mine w0 w' B q b' h' ∧ (b' = b ∨ ∃ k, b' = some k ∧ w.heap.size ≤ k) := by
  obtain ⟨b', ha, hb⟩ := t.at_
  refine ⟨b', ⟨ha, t.ok, m.base, ?_, m.bel_kp t.kp⟩, hb⟩
  intro g e
  rcases hb with rfl | ⟨k, rfl, hk⟩
  · exact m.row g e
  · injection e with e
    have := m.at_.hB
    omega
end
set_option maxRecDepth 100000 in
set_option maxHeartbeats 2000000 in
theorem alive_any (w : World) : Calls Try.prog 7 #[] w fun e w' => e = .returned (.bool true) ∧ Below w.heap.size w w' := by
  go_enter Try.func7, Try.ntmps7
  go_wp2_with fail
  have M0 := Mine.new w w (Below.refl _ _)
  generalize (w.alloc (.cells #[.slice none 0 0] 27)) = W at *
  refine (put_any (w.heap.size + 1) w.heap.size none [] ⟨5, 1, 0, 0⟩ _ M0.at_ ok_nil (by simp)).mono ?_
  rintro e w1 ⟨rfl, h1, p1, l1⟩
  obtain ⟨b1, M1, _⟩ := M0.left l1
  have hl1 : h1.length = 1 := by rw [p1.length_eq]; rfl
  clear M0 l1
  go_wp2_with fail
  refine (put_any (w.heap.size + 1) w.heap.size b1 h1 ⟨3, 2, 0, 0⟩ _ M1.at_ M1.ok (by omega)).mono ?_
  rintro e w2 ⟨rfl, h2, p2, l2⟩
  obtain ⟨b2, M2, _⟩ := M1.left l2
  have hl2 : h2.length = 1 + 1 := by rw [p2.length_eq, List.length_cons, hl1]
  have hp2 : h2.Perm [⟨3, 2, 0, 0⟩, ⟨5, 1, 0, 0⟩] := p2.trans (p1.cons _)
  have hm2 : Heap.g h2 0 = ⟨3, 2, 0, 0⟩ := min_is M2.ok (by rw [hp2.mem_iff]; simp) (fun y hy => by
    rw [hp2.mem_iff] at hy
    simp at hy
    rcases hy with rfl | rfl
    · exact .inl rfl
    · exact .inr (by decide))
  have HL := Lib.hid (And.intro hl2 (And.intro hm2 hp2))
  clear M1 l2 p1 p2 hl1 hl2 hm2 hp2
  go_wp2_with fail
  refine (pop_yes (w.heap.size + 1) w.heap.size b2 h2 ⟨3, 2, 0, 0⟩ 1 4 _ M2.at_ M2.ok HL.out.1 (by omega) HL.out.2.1 (by decide)).mono ?_
  rintro e w3 ⟨rfl, h3, p3, t3⟩
  have M3 := M2.took t3
  have hp3 : h3.Perm [⟨5, 1, 0, 0⟩] := List.Perm.cons_inv (p3.trans HL.out.2.2)
  have hl3 : h3.length = 0 + 1 := by rw [hp3.length_eq]; rfl
  have hm3 : Heap.g h3 0 = ⟨5, 1, 0, 0⟩ := min_is M3.ok (by rw [hp3.mem_iff]; simp) (fun y hy => by rw [hp3.mem_iff] at hy; simp at hy; exact .inl hy)
  have Bx : Blk (w3.alloc (.cells #[.int .i64 3, .int .i64 2, .int .u64 0, .int .u64 0] 34)) w3.heap.size 34 #[.int .i64 3, .int .i64 2, .int .u64 0, .int .u64 0] := Blk.new _ _ _
  have M4 := M3.below ((Below.refl w3.heap.size w3).alloc (Nat.le_refl _) (.cells #[.int .i64 3, .int .i64 2, .int .u64 0, .int .u64 0] 34))
  have HL3 := Lib.hid (And.intro hl3 hm3)
  clear M2 M3 t3 p3 hp3 hl3 hm3 HL
  go_wp2_with fail
  refine (pop_late (w.heap.size + 1) w.heap.size b2 h3 ⟨5, 1, 0, 0⟩ 0 4 _ M4.at_ HL3.out.1 HL3.out.2 (by decide)).mono ?_
  rintro e w5 ⟨rfl, hb5⟩
  have M5 := (M4.below hb5).below ((Below.refl w5.heap.size w5).alloc (Nat.le_refl _) ZC)
  have Bx5 := Bx.below hb5 Bx.lt
  obtain ⟨x0, x1, x2, x3⟩ := item_cells Bx5
  have lx := Bx5.lt
  clear M4 Bx hb5
  go_wp2_with fail
  refine (len_is _ _ _ h3 1 HL3.out.1 _ M5.at_).mono ?_
  rintro e w6 ⟨rfl, rfl⟩
  go_wp2
  go_ret
  exact ⟨rfl, M5.bel⟩
end Go.Proofs.Ytmepipnledoinaa
