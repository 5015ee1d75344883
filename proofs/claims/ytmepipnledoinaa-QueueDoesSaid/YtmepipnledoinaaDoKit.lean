/- The queue and the reference's list side by side. Conditions: none. -/
import Derived.Test.YtmepipnledoinaaFirst
import Derived.Test.YtmepipnledoinaaDrops
namespace Go.Proofs.Ytmepipnledoinaa
open Go.RowKit Go.BigFrame
theorem own_base {w : World} {B B' t s n : Nat} {v : Value} {xs : List Value} (h : w.ownsRow B' t s v n xs) (hB : B ≤ B') : w.ownsRow B t s v n xs := by
  refine ⟨h.1, ?_⟩
  rcases h.2 with e | ⟨g, cap, cur, e1, e2, e3⟩
  · exact .inl e
  · exact .inr ⟨g, cap, cur, e1, Nat.le_trans hB e2, e3⟩
theorem own_kpv {w w' : World} {B t s n q : Nat} {b : Option Nat} {v : Value} {xs : List Value} (h : w.ownsRow B t s v n xs) (k : Kp w w' q b) (h1 : v.ownBlock ≠ some q) (h2 : ∀ g, b = some g → v.ownBlock ≠ some g) : w'.ownsRow B t s v n xs := by
  refine ⟨h.1, ?_⟩
  rcases h.2 with e | ⟨g, cap, cur, e1, e2, e3, e4⟩
  · exact .inl e
  · have hv : v.ownBlock = some g := by rw [e1]; rfl
    have hg : g < w.heap.size := (h.lt g hv).2
    exact .inr ⟨g, cap, cur, e1, e2, (k.block g hg (fun e => h1 (by rw [hv, e])) (fun e => h2 g e.symm hv)).trans e3, e4⟩
theorem own_row {w : World} {B : Nat} {v : Value} {l : List It} (h : w.ownsRow B 48 4 v l.length (flat l)) (h0 : 0 < l.length) : ∃ g cap, v = .slice (some ⟨g, 0, none⟩) l.length cap ∧ LRow w B g cap l := by
  obtain ⟨g, cap, rfl, _, _⟩ := h.form h0
  exact ⟨g, cap, rfl, ⟨h⟩⟩
theorem own_nil {w : World} {B : Nat} {v : Value} (h : w.ownsRow B 48 4 v 0 []) : ∃ A cap, v = .slice A 0 cap := own_form h
theorem stamp_inj {l : List It} (hn : (l.map It.stamp).Nodup) {i j : Nat} (hi : i < l.length) (hj : j < l.length) (e : (Heap.g l i).stamp = (Heap.g l j).stamp) : i = j := by
  rw [Heap.g_get l i hi, Heap.g_get l j hj] at e
  have h1 := List.pairwise_iff_getElem.1 hn
  rcases Nat.lt_trichotomy i j with h | h | h
  · exact absurd (by rw [List.getElem_map, List.getElem_map]; exact e) (h1 i j (by simpa using hi) (by simpa using hj) h)
  · exact h
  · exact absurd (by rw [List.getElem_map, List.getElem_map]; exact e.symm) (h1 j i (by simpa using hj) (by simpa using hi) h)
theorem find_absent {w : World} {B : Nat} {v : Value} {l : List It} (h : w.ownsRow B 48 4 v l.length (flat l)) (hl : l.length ≤ 1000) (s : Int) (hs : ∀ x ∈ l, x.stamp ≠ s) :
    Calls Try.prog 12 #[v, .int .i64 s] w fun e w' => e = .returned (.int .i64 (-1)) ∧ Below w.heap.size w w' := by
  rcases Nat.eq_zero_or_pos l.length with h0 | h0
  · obtain rfl := List.length_eq_zero_iff.1 h0
    obtain ⟨A, cap, rfl⟩ := own_nil h
    exact find_empty A cap s w
  · obtain ⟨g, cap, rfl, hr⟩ := own_row h h0
    exact find_no B g cap l s w hr hl (fun j hj => hs _ (g_mem hj))
theorem find_at {w : World} {B : Nat} {v : Value} {l : List It} (h : w.ownsRow B 48 4 v l.length (flat l)) (hl : l.length ≤ 1000) (hn : (l.map It.stamp).Nodup) (s : Int) (m : Nat) (hm : m < l.length) (hs : (Heap.g l m).stamp = s) :
    Calls Try.prog 12 #[v, .int .i64 s] w fun e w' => e = .returned (.int .i64 (m : Int)) ∧ Below w.heap.size w w' := by
  obtain ⟨g, cap, rfl, hr⟩ := own_row h (by omega)
  exact find_yes B g cap l s m w hr hl hm hs (fun j hj e => by
    have := stamp_inj hn (by omega) hm (e.trans hs.symm)
    omega)
theorem first_none {w : World} {B : Nat} {v : Value} (h : w.ownsRow B 48 4 v 0 []) : Calls Try.prog 14 #[v] w fun e w' => e = .returned (.int .i64 (-1)) ∧ Below w.heap.size w w' := by
  obtain ⟨A, cap, rfl⟩ := own_nil h
  exact rfirst_empty A cap w
theorem first_at {w : World} {B : Nat} {v : Value} {l : List It} (h : w.ownsRow B 48 4 v l.length (flat l)) (hl : l.length ≤ 1000) (hn : (l.map It.stamp).Nodup) (m : Nat) (hm : m < l.length) (hx : ∀ y ∈ l, lt y (Heap.g l m) = false) :
    Calls Try.prog 14 #[v] w fun e w' => e = .returned (.int .i64 (m : Int)) ∧ Below w.heap.size w w' := by
  obtain ⟨g, cap, rfl, hr⟩ := own_row h (by omega)
  refine (rfirst_w B g cap l w hr hl).mono ?_
  rintro e w' ⟨b, rfl, hb, bel⟩
  rcases hb with ⟨h0, _⟩ | ⟨k, hk, rfl, hmin⟩
  · omega
  · have h1 := hmin m hm
    have h2 := hx _ (g_mem hk)
    rw [lt_no] at h1 h2
    have := stamp_inj hn hm hk (by omega)
    subst this
    exact ⟨rfl, bel⟩
theorem without_at {w : World} {B : Nat} {v : Value} {l : List It} (h : w.ownsRow B 48 4 v l.length (flat l)) (hB : B ≤ w.heap.size) (hl : l.length ≤ 300) (i : Nat) (hi : i < l.length) :
    Calls Try.prog 13 #[v, .int .i64 i] w fun e w' => ∃ v', e = .returned v' ∧ w'.ownsRow B 48 4 v' (l.eraseIdx i).length (flat (l.eraseIdx i)) ∧ Below w.heap.size w w' ∧ ∀ g, v'.ownBlock = some g → w.heap.size ≤ g := by
  obtain ⟨g, cap, rfl, hr⟩ := own_row h (by omega)
  have hc : l.length ≤ cap := by
    rcases hr.own.2 with ⟨e, _⟩ | ⟨g', cap', cur, e1, e2, e3, e4, _⟩
    · simp at e
    · simp at e1
      omega
  refine (without_w B g cap i l.length l w hr.own hi hl hc).mono ?_
  rintro e w' ⟨v', rfl, ho, bel⟩
  have hlen : (l.eraseIdx i).length = l.length - 1 := by rw [List.length_eraseIdx]; simp [hi]
  exact ⟨v', rfl, by rw [hlen]; exact own_base ho hB, bel, fun g hg => (ho.lt g hg).1⟩
/-- the queue's heap and the reference's list -/
structure DoInv (w0 : World) (B q : Nat) (b : Option Nat) (h l : List It) (v : Value) (i : Nat) (wr : World) : Prop where
  m : Mine w0 wr B q b h
  own : wr.ownsRow B 48 4 v l.length (flat l)
  far : ∀ g, b = some g → v.ownBlock ≠ some g
  p : h.Perm l
  nod : (l.map It.stamp).Nodup
  len : l.length ≤ i
section
variable {w0 w w' : World} {B q i : Nat} {b : Option Nat} {h l h' : List It} {v : Value}
theorem DoInv.below (d : DoInv w0 B q b h l v i w) (hb : Below w.heap.size w w') : DoInv w0 B q b h l v i w' := ⟨d.m.below hb, own_below d.own hb, d.far, d.p, d.nod, d.len⟩
theorem DoInv.next (d : DoInv w0 B q b h l v i w) : DoInv w0 B q b h l v (i + 1) w := ⟨d.m, d.own, d.far, d.p, d.nod, Nat.le_succ_of_le d.len⟩
theorem DoInv.blk (d : DoInv w0 B q b h l v i w) : v.ownBlock ≠ some q := fun e => by
  have h1 := (d.own.lt q e).1
  have h2 := d.m.at_.hq
  omega
theorem DoInv.hlen (d : DoInv w0 B q b h l v i w) : h.length = l.length := d.p.length_eq
/-- one more: the queue's side -/
theorem DoInv.left (d : DoInv w0 B q b h l v i w) (o : Left w w' B q b h') : ∃ b', Mine w0 w' B q b' h' ∧ w'.ownsRow B 48 4 v l.length (flat l) ∧ ∀ g, b' = some g → v.ownBlock ≠ some g := by
  obtain ⟨b', m, hb⟩ := d.m.left o
  refine ⟨b', m, own_kpv d.own o.kp d.blk d.far, ?_⟩
  rcases hb with rfl | ⟨g, rfl, hg⟩
  · exact d.far
  · intro g' e e2
    injection e with e
    have := (d.own.lt g' e2).2
    omega
/-- one less: the queue's side -/
theorem DoInv.took (d : DoInv w0 B q b h l v i w) (o : Took w w' B q b h') : Mine w0 w' B q b h' ∧ w'.ownsRow B 48 4 v l.length (flat l) := ⟨d.m.took o, own_kpv d.own o.kp d.blk d.far⟩
end
theorem perm_erase {x : It} {h h' l : List It} {m : Nat} (hp : h.Perm l) (hm : m < l.length) (hx : Heap.g l m = x) (p : (x :: h').Perm h) : h'.Perm (l.eraseIdx m) := by
  have h1 : (x :: l.eraseIdx m).Perm l := by
    rw [List.eraseIdx_eq_take_drop_succ]
    conv => rhs; rw [← List.take_append_drop m l, List.drop_eq_getElem_cons hm]
    rw [← Heap.g_get l m hm, hx]
    exact List.perm_middle.symm
  exact ((p.trans hp).trans h1.symm).cons_inv
theorem nod_erase {l : List It} (m : Nat) (hn : (l.map It.stamp).Nodup) : ((l.eraseIdx m).map It.stamp).Nodup := List.Nodup.sublist ((List.eraseIdx_sublist ..).map It.stamp) hn
theorem nod_more {l : List It} {x : It} (hn : (l.map It.stamp).Nodup) (hx : ∀ y ∈ l, y.stamp ≠ x.stamp) : ((l ++ [x]).map It.stamp).Nodup := by
  rw [List.map_append, List.nodup_append]
  refine ⟨hn, by simp, fun a ha c hc => ?_⟩
  obtain ⟨y, hy, rfl⟩ := List.mem_map.1 ha
  simp at hc
  subst hc
  exact hx y hy
theorem reads_blk {w : World} {g t size n : Nat} {cs : Array Value} (h : Blk w g t cs) (hs : cs.size = n * size) : Reads w w.heap.size size (some ⟨g, 0, none⟩) n cs.toList := by
  refine ⟨by simpa using hs, fun _ => ⟨_, rfl, h.lt, fun j u hu => ?_⟩⟩
  have e : (Addr.mk g 0 none).add j = ⟨g, j, none⟩ := by
    unfold Addr.add
    split
    · rename_i h0; rw [h0]
    · simp
  rw [e, h.cell j]
  simpa using hu
theorem DoInv.more {w0 w w4 w5 : World} {B q i : Nat} {b : Option Nat} {h h2 l : List It} {v v' : Value} {x : It} {o : Obj} (d : DoInv w0 B q b h l v i w) (lf : Left w w4 B q b h2) (p2 : h2.Perm (x :: h)) (hx : ∀ y ∈ l, y.stamp ≠ x.stamp)
    (hown : w5.ownsRow B 48 4 v' (l.length + 1) (flat l ++ x.cells)) (hg : (w4.alloc o).grownBy w5 v.ownBlock) (hat : v'.ownBlock = v.ownBlock ∨ v'.ownBlock = some (w4.alloc o).heap.size) : ∃ b', DoInv w0 B q b' h2 (l ++ [x]) v' (i + 1) w5 := by
  obtain ⟨b', m4, own4, far4⟩ := d.left lf
  have hB := m4.base
  have hsz := m4.bel.size
  have hrow : ∀ g, v.ownBlock = some g → w0.heap.size ≤ g := fun g e => by
    have h1 := (d.own.lt g e).1
    have h2 := m4.at_.hq
    omega
  have m4a := m4.below ((Below.refl _ _).alloc (Nat.le_refl _) o)
  have hq4 := m4.q_lt
  have m5 : Mine w0 w5 B q b' h2 := m4a.kept (Kp.of_grown (q := w4.heap.size) hg) (by omega) (fun e => d.blk e.symm) (fun g e => ⟨by have := m4.row_lt g e; omega, fun e2 => far4 g e e2.symm⟩) (m4a.bel.grown hg m4a.bel.size hrow)
  refine ⟨b', m5, ?_, ?_, ?_, nod_more d.nod hx, ?_⟩
  · rw [List.length_append, flat_append]
    have e : flat [x] = x.cells := by simp [flat]
    rw [e]
    exact hown
  · intro g e
    rcases hat with ha | ha
    · rw [ha]; exact far4 g e
    · rw [ha]
      intro e2
      injection e2 with e2
      have := m4.row_lt g e
      simp at e2
      omega
  · exact p2.trans ((d.p.cons x).trans (List.perm_append_singleton x l).symm)
  · rw [List.length_append]
    have := d.len
    simp
    omega
theorem DoInv.less {w0 w w' w2 : World} {B q i m : Nat} {b : Option Nat} {h h' l : List It} {v v' : Value} {x : It} (d : DoInv w0 B q b h l v i w) (t : Mine w0 w' B q b h') (p : (x :: h').Perm h) (hm : m < l.length) (hx : Heap.g l m = x)
    (hown : w2.ownsRow B 48 4 v' (l.eraseIdx m).length (flat (l.eraseIdx m))) (hb : Below w'.heap.size w' w2) (hv : ∀ g, v'.ownBlock = some g → w'.heap.size ≤ g) : DoInv w0 B q b h' (l.eraseIdx m) v' (i + 1) w2 := by
  refine ⟨t.below hb, hown, fun g e e2 => ?_, perm_erase d.p hm hx p, nod_erase m d.nod, ?_⟩
  · have h1 := t.row_lt g e
    have h2 := hv g e2
    omega
  · have h1 := d.len
    have h2 := List.length_eraseIdx_le l m
    omega
theorem qs1 {P : Program} {f : FuncId} {args : Array Value} {w : World} {n : Nat} {v : Value}
    (h : Calls P f args (w.drewN n) fun e w' => e = .returned v ∧ w.drewN n = w') : Calls P f args (w.drewN n) fun e w'' => e = .returned v ∧ ∃ m, w'' = w.drewN m :=
  h.mono fun _ _ ⟨he, hm⟩ => ⟨he, n, hm.symm⟩
theorem bel_drewN (w : World) (n : Nat) : Below w.heap.size w (w.drewN n) := ⟨rfl, rfl, rfl, Nat.le_refl _, fun _ _ => rfl⟩
theorem heap_min {h l : List It} (ho : Heap.Ok lt h) (hp : h.Perm l) {m : Nat} (hx : Heap.g l m = Heap.g h 0) : ∀ y ∈ l, lt y (Heap.g l m) = false := by
  intro y hy
  obtain ⟨a, ha, ea⟩ := Heap.mem_g h y (hp.mem_iff.2 hy)
  rw [hx, ← ea]
  exact ho.first lt_ord a ha
end Go.Proofs.Ytmepipnledoinaa
