/- Two queues side by side; the turned items. Conditions: none. -/
import Derived.Test.YtmepipnledoinaaTimes
namespace Go.Proofs.Ytmepipnledoinaa
open Go.RowKit Go.BigFrame
theorem Blk.kp {w w' : World} {L t q : Nat} {b : Option Nat} {cs : Array Value} (h : Blk w L t cs) (k : Kp w w' q b) (h1 : L ≠ q) (h2 : some L ≠ b) : Blk w' L t cs := (k.block L h.lt h1 h2).trans h
theorem own_kp {w w' : World} {B t s n q S cap len : Nat} {b : Option Nat} {xs : List Value} (h : w.ownsRow B t s (.slice (some ⟨S, 0, none⟩) len cap) n xs) (k : Kp w w' q b) (h1 : S ≠ q) (h2 : some S ≠ b) : w'.ownsRow B t s (.slice (some ⟨S, 0, none⟩) len cap) n xs := by
  refine ⟨h.1, ?_⟩
  rcases h.2 with e | ⟨g, cap, cur, e1, e2, e3, e4⟩
  · exact .inl e
  · have hg : g < w.heap.size := (h.lt g (by rw [e1]; rfl)).2
    have : S = g := by simp at e1; exact e1.1
    subst this
    exact .inr ⟨S, cap, cur, e1, e2, (k.block S hg h1 h2).trans e3, e4⟩
theorem Kp.set (w : World) (L i : Nat) (u : Value) : Kp w (w.setCell ⟨L, i, none⟩ u) L none := Kp.setq (Kp.refl w L none) i u
/-- two queues, their blocks and rows apart -/
structure Two (w0 w : World) (B q p : Nat) (b c : Option Nat) (h k : List It) : Prop where
  mq : Mine w0 w B q b h
  mp : Mine w0 w B p c k
  ne : q ≠ p
  ap : ∀ g, b = some g → c ≠ some g
section
variable {w0 w w' : World} {B q p : Nat} {b c : Option Nat} {h k h' k' : List It}
theorem Mine.kept (m : Mine w0 w B q b h) {q' : Nat} {b' : Option Nat} (kp : Kp w w' q' b') (h1 : q ≠ q') (h2 : some q ≠ b') (h3 : ∀ g, b = some g → g ≠ q' ∧ some g ≠ b') (hb : Below w0.heap.size w0 w') : Mine w0 w' B q b h :=
  ⟨m.at_.kept kp h1 h2 h3, m.ok, m.base, m.row, hb⟩
theorem Two.swap (t : Two w0 w B q p b c h k) : Two w0 w B p q c b k h := ⟨t.mp, t.mq, t.ne.symm, fun g e e2 => t.ap g e2 e⟩
theorem Two.below (t : Two w0 w B q p b c h k) (hb : Below w.heap.size w w') : Two w0 w' B q p b c h k := ⟨t.mq.below hb, t.mp.below hb, t.ne, t.ap⟩
theorem Two.alloc (t : Two w0 w B q p b c h k) (o : Obj) : Two w0 (w.alloc o) B q p b c h k := t.below ((Below.refl _ _).alloc (Nat.le_refl _) o)
theorem Two.far (t : Two w0 w B q p b c h k) : some p ≠ b := by
  intro e
  have := t.mq.row p e.symm
  have := t.mp.at_.hq
  omega
theorem Two.other (t : Two w0 w B q p b c h k) (kp : Kp w w' q b) : Mine w0 w' B p c k := by
  refine t.mp.kept kp t.ne.symm t.far (fun g e => ⟨?_, fun e2 => t.ap g e2.symm e⟩) (t.mq.bel_kp kp)
  intro e2
  subst e2
  exact t.swap.far e.symm
theorem Two.took (t : Two w0 w B q p b c h k) (o : Took w w' B q b h') : Two w0 w' B q p b c h' k := ⟨t.mq.took o, t.other o.kp, t.ne, t.ap⟩
theorem Two.left (t : Two w0 w B q p b c h k) (o : Left w w' B q b h') : ∃ b', Two w0 w' B q p b' c h' k := by
  obtain ⟨b', m, hb⟩ := t.mq.left o
  refine ⟨b', m, t.other o.kp, t.ne, ?_⟩
  rcases hb with rfl | ⟨g, rfl, hg⟩
  · exact t.ap
  · intro g' e e2
    injection e with e
    have := t.mp.row_lt g' e2
    omega
theorem Two.set (t : Two w0 w B q p b c h k) (L i : Nat) (u : Value) (h0 : w0.heap.size ≤ L) (h1 : q ≠ L) (h2 : p ≠ L) (h3 : b ≠ some L) (h4 : c ≠ some L) : Two w0 (w.setCell ⟨L, i, none⟩ u) B q p b c h k := by
  have hb : Below w0.heap.size w0 (w.setCell ⟨L, i, none⟩ u) := t.mq.bel.trans ((Kp.set w L i u).below h0 (by intro k e; cases e) t.mq.bel.size)
  exact ⟨t.mq.kept (Kp.set w L i u) h1 (by simp) (fun g e => ⟨fun e2 => h3 (by rw [e, e2]), by simp⟩) hb, t.mp.kept (Kp.set w L i u) h2 (by simp) (fun g e => ⟨fun e2 => h4 (by rw [e, e2]), by simp⟩) hb, t.ne, t.ap⟩
end
theorem Two.new (w0 w : World) (hb : Below w0.heap.size w0 w) : Two w0 ((w.alloc (.cells #[.slice none 0 0] 27)).alloc (.cells #[.slice none 0 0] 27)) (w.heap.size + 1 + 1) w.heap.size (w.heap.size + 1) none none [] [] := by
  have h1 : Below w0.heap.size w0 ((w.alloc (.cells #[.slice none 0 0] 27)).alloc (.cells #[.slice none 0 0] 27)) := (hb.alloc hb.size _).alloc (by simp; have := hb.size; omega) _
  refine ⟨⟨⟨by omega, by simp, _, (Blk.new _ _ _).alloc _, World.ownsRow_nil _ _ _ _, rfl⟩, ok_nil, hb.size, (fun g e => by cases e), h1⟩, ⟨⟨by omega, by simp, _, ?_, World.ownsRow_nil _ _ _ _, rfl⟩, ok_nil, by have := hb.size; omega, (fun g e => by cases e), h1⟩, by omega, (fun g e => by cases e)⟩
  have := Blk.new (w.alloc (.cells #[.slice none 0 0] 27)) 27 #[.slice none 0 0]
  simpa using this
/-- an item of the list -/
abbrev itOf (D : List Int) (j : Nat) : It := ⟨D.getD j 0, (j : Int), 0, 0⟩
/-- the items from k on, around -/
def rot (D : List Int) (n k i : Nat) : List It := (List.range i).map fun j => itOf D ((j + k) % n)
theorem rot_succ (D : List Int) (n k i : Nat) : rot D n k (i + 1) = rot D n k i ++ [itOf D ((i + k) % n)] := by
  unfold rot; rw [List.range_succ, List.map_append]; rfl
theorem rot_length (D : List Int) (n k i : Nat) : (rot D n k i).length = i := by simp [rot]
theorem turned (n k : Nat) (hk : k < n) : ((List.range n).map fun j => (j + k) % n).Perm (List.range n) := by
  have e1 : List.range n = List.range (n - k) ++ (List.range k).map (fun x => n - k + x) := by rw [← List.range_add]; congr 1; omega
  have e2 : List.range n = List.range k ++ (List.range (n - k)).map (fun x => k + x) := by rw [← List.range_add]; congr 1; omega
  have e3 : ((List.range n).map fun j => (j + k) % n) = (List.range (n - k)).map (fun x => k + x) ++ List.range k := by
    conv => lhs; rw [e1]
    rw [List.map_append, List.map_map]
    congr 1
    · refine List.map_congr_left fun x hx => ?_
      rw [List.mem_range] at hx
      rw [Nat.mod_eq_of_lt (by omega)]; omega
    · refine (List.map_congr_left (g := id) fun x hx => ?_).trans (List.map_id _)
      rw [List.mem_range] at hx
      show (n - k + x + k) % n = x
      rw [show n - k + x + k = n + x by omega, Nat.add_mod_left, Nat.mod_eq_of_lt (by omega)]
  rw [e3, e2]
  exact List.perm_append_comm
theorem rot_perm (D : List Int) (n k : Nat) (hk : k < n) : (rot D n k n).Perm (its D n) := by
  have := (turned n k hk).map (itOf D)
  rw [List.map_map] at this
  exact this
theorem mem_its {D : List Int} {n : Nat} {x : It} (h : x ∈ its D n) : ∃ j, j < n ∧ x = itOf D j := by
  unfold its at h
  rw [List.mem_map] at h
  obtain ⟨j, hj, e⟩ := h
  exact ⟨j, List.mem_range.1 hj, e.symm⟩
theorem stamps_its (D : List Int) (n : Nat) : ((its D n).map It.stamp).Nodup := by
  unfold its
  rw [List.map_map]
  exact List.Pairwise.map _ (fun a b h e => h (Int.ofNat.inj e)) List.nodup_range
theorem same_first {D : List Int} {n : Nat} {h k : List It} (ho : Heap.Ok lt h) (ko : Heap.Ok lt k) (hp : h.Perm k) (hs : ∀ x ∈ h, ∃ j, j < n ∧ x = itOf D j) (h0 : 0 < h.length) : Heap.g h 0 = Heap.g k 0 := by
  have k0 : 0 < k.length := by rw [← hp.length_eq]; exact h0
  have hx := g_mem h0
  have hy := (hp.mem_iff (a := Heap.g k 0)).2 (g_mem k0)
  obtain ⟨i, hi, ei⟩ := hs _ hx
  obtain ⟨j, hj, ej⟩ := hs _ hy
  obtain ⟨a, ha, ea⟩ := Heap.mem_g k _ ((hp.mem_iff (a := Heap.g h 0)).1 hx)
  obtain ⟨c, hc, ec⟩ := Heap.mem_g h _ hy
  have h1 := ko.first lt_ord a ha
  have h2 := ho.first lt_ord c hc
  rw [ea] at h1
  rw [ec] at h2
  rw [lt_no] at h1 h2
  rw [ei, ej] at h1 h2 ⊢
  have : i = j := by simp at h1 h2; omega
  rw [this]
theorem turn_is (turn : Int) (n : Nat) (hn : 0 < n) (hn2 : n ≤ 100) : ∃ j : Nat, j < n ∧ wrap64 ((IntKind.u64.wrap turn).tmod n) = (j : Int) := by
  have h0 : 0 ≤ IntKind.u64.wrap turn := by rw [IntKind.wrap_u64]; omega
  rw [Int.tmod_eq_emod_of_nonneg h0]
  have h1 := Int.emod_nonneg (IntKind.u64.wrap turn) (show (n : Int) ≠ 0 by omega)
  have h2 := Int.emod_lt_of_pos (IntKind.u64.wrap turn) (show (0 : Int) < n by omega)
  generalize IntKind.u64.wrap turn % (n : Int) = x at h1 h2
  refine ⟨x.toNat, by omega, ?_⟩
  unfold wrap64
  omega
end Go.Proofs.Ytmepipnledoinaa
