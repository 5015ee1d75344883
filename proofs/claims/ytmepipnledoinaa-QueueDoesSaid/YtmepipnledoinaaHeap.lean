/- The plain mathematics of a heap: going up, going down, one goes, one comes. Conditions: an order. -/
namespace Go.Proofs.Ytmepipnledoinaa.Heap
open List
variable {α : Type} [Inhabited α]
def g (h : List α) (i : Nat) : α := h.getD i default
def swap (h : List α) (i j : Nat) : List α := (h.set i (g h j)).set j (g h i)
def par (j : Nat) : Nat := (j - 1) / 2
theorem g_get (h : List α) (i : Nat) (hi : i < h.length) : g h i = h[i] := by
  unfold g; rw [List.getD_eq_getElem?_getD, List.getElem?_eq_getElem hi]; rfl
theorem g_set (h : List α) (i j : Nat) (v : α) (hi : i < h.length) : g (h.set i v) j = if i = j then v else g h j := by
  unfold g
  rw [List.getD_eq_getElem?_getD, List.getElem?_set, List.getD_eq_getElem?_getD]
  by_cases e : i = j
  · subst e; simp [hi]
  · simp [e]
theorem swap_length (h : List α) (i j : Nat) : (swap h i j).length = h.length := by simp [swap]
theorem swap_g (h : List α) (i j k : Nat) (hi : i < h.length) (hj : j < h.length) : g (swap h i j) k = if j = k then g h i else if i = k then g h j else g h k := by
  unfold swap
  rw [g_set _ _ _ _ (by simpa using hj), g_set _ _ _ _ hi]
theorem swap_perm (h : List α) (i j : Nat) (hi : i < h.length) (hj : j < h.length) : (swap h i j).Perm h := by
  unfold swap
  rw [g_get h i hi, g_get h j hj]
  exact List.set_set_perm hi hj
theorem mem_g (h : List α) (x : α) (hx : x ∈ h) : ∃ i, i < h.length ∧ g h i = x := by
  obtain ⟨i, hi, e⟩ := List.getElem_of_mem hx
  exact ⟨i, hi, by rw [g_get h i hi]; exact e⟩

/-- 'before' is a strict order whose denial is transitive -/
structure Ord (lt : α → α → Bool) : Prop where
  trans : ∀ a b c, lt b a = false → lt c b = false → lt c a = false
  asym : ∀ a b, lt a b = true → lt b a = false
variable {lt : α → α → Bool}
omit [Inhabited α] in
theorem Ord.irr (o : Ord lt) (a : α) : lt a a = false := by
  cases e : lt a a
  · rfl
  · exact absurd (o.asym a a e) (by simp [e])

def Ok (lt : α → α → Bool) (h : List α) : Prop := ∀ j, 0 < j → j < h.length → lt (g h j) (g h (par j)) = false
structure Up (lt : α → α → Bool) (h : List α) (k : Nat) : Prop where
  bd : k < h.length
  ok : ∀ j, 0 < j → j < h.length → j ≠ k → lt (g h j) (g h (par j)) = false
  kid : ∀ j, 0 < j → j < h.length → par j = k → 0 < k → lt (g h j) (g h (par k)) = false
theorem par_lt {j : Nat} (h : 0 < j) : par j < j := by unfold par; omega

theorem Up.step (o : Ord lt) {h : List α} {k : Nat} (u : Up lt h k) (h0 : 0 < k) (hb : lt (g h k) (g h (par k)) = true) : Up lt (swap h k (par k)) (par k) := by
  have hk := u.bd
  have hp := par_lt h0
  have hp' : par k < h.length := by omega
  refine ⟨by rw [swap_length]; omega, fun j j0 jl jk => ?_, fun j j0 jl jp p0 => ?_⟩
  · rw [swap_length] at jl
    rw [swap_g h k (par k) j hk hp', swap_g h k (par k) (par j) hk hp', if_neg (Ne.symm jk)]
    by_cases e : k = j
    · subst e
      rw [if_pos rfl, if_pos rfl]
      exact o.asym _ _ hb
    · rw [if_neg e]
      by_cases e1 : par k = par j
      · rw [if_pos e1]
        have h1 := u.ok j j0 jl (Ne.symm e)
        rw [← e1] at h1
        exact o.trans _ _ _ (o.asym _ _ hb) h1
      · rw [if_neg e1]
        by_cases e2 : k = par j
        · rw [if_pos e2]
          exact u.kid j j0 jl e2.symm h0
        · rw [if_neg e2]
          exact u.ok j j0 jl (Ne.symm e)
  · rw [swap_length] at jl
    have hpp := par_lt p0
    rw [swap_g h k (par k) j hk hp', swap_g h k (par k) (par (par k)) hk hp']
    have h1 := u.ok (par k) p0 hp' (by omega)
    have hjp := par_lt j0
    rw [if_neg (show ¬ par k = j by omega), if_neg (show ¬ par k = par (par k) by omega), if_neg (show ¬ k = par (par k) by omega)]
    by_cases e2 : k = j
    · rw [if_pos e2]; exact h1
    · rw [if_neg e2]
      have h2 := u.ok j j0 jl (Ne.symm e2)
      rw [jp] at h2
      exact o.trans _ _ _ h1 h2
theorem Up.stop {h : List α} {k : Nat} (u : Up lt h k) (hb : ¬ (0 < k ∧ lt (g h k) (g h (par k)) = true)) : Ok lt h := by
  intro j j0 jl
  by_cases e : j = k
  · subst e
    cases e2 : lt (g h j) (g h (par j))
    · rfl
    · exact absurd ⟨j0, e2⟩ hb
  · exact u.ok j j0 jl e

/-- an item goes down from i: it stands at k -/
structure Down (lt : α → α → Bool) (h : List α) (i k : Nat) : Prop where
  bd : k < h.length
  le : i ≤ k
  ok : ∀ j, 0 < j → j < h.length → par j ≠ k → j ≠ i → lt (g h j) (g h (par j)) = false
  kid : ∀ j, 0 < j → j < h.length → par j = k → 0 < k → lt (g h j) (g h (par k)) = false
  top : k ≠ i → 0 < i → lt (g h i) (g h (par i)) = false
/-- c: the least of k's children and itself -/
structure Least (lt : α → α → Bool) (h : List α) (k c n : Nat) : Prop where
  cl : c < h.length
  kid : c = k ∨ (par c = k ∧ 0 < c ∧ lt (g h c) (g h k) = true)
  le : ∀ j, 0 < j → j < h.length → par j = k → j < n → lt (g h j) (g h c) = false
theorem Least.start {h : List α} {k : Nat} (hk : k < h.length) : Least lt h k k (2 * k + 1) :=
  ⟨hk, .inl rfl, fun j j0 _ jp jn => by unfold par at jp; omega⟩
theorem Least.take (o : Ord lt) {h : List α} {k c n : Nat} (l : Least lt h k c n) (hn : n < h.length) (hp : par n = k) (n0 : 0 < n) (hb : lt (g h n) (g h c) = true) : Least lt h k n (n + 1) := by
  refine ⟨hn, .inr ⟨hp, n0, ?_⟩, fun j j0 jl jp jn => ?_⟩
  · rcases l.kid with e | ⟨_, _, e⟩
    · rw [← e]; exact hb
    · cases e2 : lt (g h n) (g h k)
      · have h1 : lt (g h c) (g h k) = false := by
          -- n is not before k, c before k: then c is before n
          have h2 := o.asym _ _ hb
          exact o.trans _ _ _ e2 h2
        rw [h1] at e; cases e
      · rfl
  · by_cases e : j = n
    · subst e; exact o.irr _
    · have h1 := l.le j j0 jl jp (by omega)
      exact o.trans _ _ _ (o.asym _ _ hb) h1
theorem Least.keep {h : List α} {k c n : Nat} (l : Least lt h k c n) (hb : n < h.length → lt (g h n) (g h c) = false) : Least lt h k c (n + 1) := by
  refine ⟨l.cl, l.kid, fun j j0 jl jp jn => ?_⟩
  by_cases e : j = n
  · subst e; exact hb jl
  · exact l.le j j0 jl jp (by omega)
theorem Least.all {h : List α} {k c n : Nat} (l : Least lt h k c n) (hn : h.length ≤ n ∨ 2 * k + 3 ≤ n) (j : Nat) (j0 : 0 < j) (jl : j < h.length) (jp : par j = k) : lt (g h j) (g h c) = false :=
  l.le j j0 jl jp (by unfold par at jp; omega)

theorem Down.step (o : Ord lt) {h : List α} {i k c n : Nat} (d : Down lt h i k) (l : Least lt h k c n) (hn : h.length ≤ n ∨ 2 * k + 3 ≤ n) (hc : c ≠ k) : Down lt (swap h k c) i c := by
  obtain ⟨cp, c0, cb⟩ := l.kid.resolve_left hc
  have hk := d.bd
  have hcl := l.cl
  have hlt := par_lt c0
  have hle := d.le
  refine ⟨by rw [swap_length]; exact hcl, by omega, fun j j0 jl jp ji => ?_, fun j j0 jl jp _ => ?_, fun _ i0 => ?_⟩
  · rw [swap_length] at jl
    rw [swap_g h k c j hk hcl, swap_g h k c (par j) hk hcl, if_neg (Ne.symm jp)]
    have hjp := par_lt j0
    by_cases e : c = j
    · subst e
      rw [if_pos rfl, if_pos cp.symm]
      exact o.asym _ _ cb
    · rw [if_neg e]
      by_cases e1 : k = j
      · subst e1
        rw [if_pos rfl, if_neg (by omega)]
        exact d.kid c c0 hcl cp j0
      · rw [if_neg e1]
        by_cases e2 : k = par j
        · rw [if_pos e2]
          exact l.all hn j j0 jl e2.symm
        · rw [if_neg e2]
          exact d.ok j j0 jl (Ne.symm e2) ji
  · rw [swap_length] at jl
    have hjp := par_lt j0
    rw [swap_g h k c j hk hcl, swap_g h k c (par c) hk hcl, if_neg (by omega), if_neg (by omega), cp, if_neg (by omega), if_pos rfl]
    have h1 := d.ok j j0 jl (by omega) (by omega)
    rw [jp] at h1
    exact h1
  · rw [swap_g h k c i hk hcl, swap_g h k c (par i) hk hcl]
    have hip := par_lt i0
    rw [if_neg (show ¬ c = i by omega), if_neg (show ¬ c = par i by omega), if_neg (show ¬ k = par i by omega)]
    by_cases e : k = i
    · subst e
      rw [if_pos rfl]
      exact d.kid c c0 hcl cp i0
    · rw [if_neg e]
      exact d.top e i0
theorem Down.stop (o : Ord lt) {h : List α} {i k n : Nat} (d : Down lt h i k) (l : Least lt h k k n) (hn : h.length ≤ n ∨ 2 * k + 3 ≤ n) : Up lt h i := by
  have hall : ∀ j, 0 < j → j < h.length → j ≠ i → lt (g h j) (g h (par j)) = false := by
    intro j j0 jl ji
    by_cases e : par j = k
    · rw [e]; exact l.all hn j j0 jl e
    · exact d.ok j j0 jl e ji
  have hk := d.bd
  have hle := d.le
  refine ⟨by omega, hall, fun j j0 jl jp i0 => ?_⟩
  have hjp := par_lt j0
  by_cases e : k = i
  · subst e; exact d.kid j j0 jl jp i0
  · have h1 := hall j j0 jl (by omega)
    rw [jp] at h1
    exact o.trans _ _ _ (d.top e i0) h1

/-- one more, at the end -/
theorem Up.put {h : List α} (k : Ok lt h) (x : α) : Up lt (h ++ [x]) h.length := by
  have hg : ∀ j, j < h.length → g (h ++ [x]) j = g h j := fun j hj => by
    unfold g; rw [List.getD_eq_getElem?_getD, List.getD_eq_getElem?_getD, List.getElem?_append_left hj]
  refine ⟨by simp, fun j j0 jl jk => ?_, fun j j0 jl jp _ => ?_⟩
  · have hj : j < h.length := by simp at jl; omega
    have := par_lt j0
    rw [hg j hj, hg (par j) (by omega)]
    exact k j j0 hj
  · simp at jl
    have := par_lt j0
    omega
/-- the last one in the place of the i-th -/
def cut (h : List α) (i : Nat) : List α := (h.set i (g h (h.length - 1))).take (h.length - 1)
theorem cut_length (h : List α) (i : Nat) : (cut h i).length = h.length - 1 := by simp [cut]
theorem cut_g (h : List α) (i j : Nat) (hi : i < h.length) (hj : j < h.length - 1) : g (cut h i) j = if i = j then g h (h.length - 1) else g h j := by
  unfold cut
  rw [← g_set h i j _ hi]
  unfold g
  rw [List.getD_eq_getElem?_getD (l := List.take _ _), List.getElem?_take_of_lt hj, ← List.getD_eq_getElem?_getD]
theorem Down.take (o : Ord lt) {h : List α} (k : Ok lt h) {i : Nat} (hi : i < h.length - 1) : Down lt (cut h i) i i := by
  have hi' : i < h.length := by omega
  refine ⟨by rw [cut_length]; exact hi, Nat.le_refl _, fun j j0 jl jp ji => ?_, fun j j0 jl jp i0 => ?_, fun hne => absurd rfl hne⟩
  · rw [cut_length] at jl
    have := par_lt j0
    rw [cut_g h i j hi' jl, cut_g h i (par j) hi' (by omega), if_neg (Ne.symm ji), if_neg (Ne.symm jp)]
    exact k j j0 (by omega)
  · rw [cut_length] at jl
    have h1 := par_lt j0
    have h2 := par_lt i0
    rw [cut_g h i j hi' jl, cut_g h i (par i) hi' (by omega), if_neg (by omega), if_neg (by omega)]
    have h3 := k j j0 (by omega)
    rw [jp] at h3
    exact o.trans _ _ _ (k i i0 hi') h3
theorem Ok.cut_last {h : List α} (k : Ok lt h) (h0 : 0 < h.length) : Ok lt (cut h (h.length - 1)) := by
  intro j j0 jl
  rw [cut_length] at jl
  have := par_lt j0
  rw [cut_g h _ j (by omega) jl, cut_g h _ (par j) (by omega) (by omega), if_neg (by omega), if_neg (by omega)]
  exact k j j0 (by omega)
theorem cut_perm {h : List α} {i : Nat} (hi : i < h.length) : (g h i :: cut h i).Perm h := by
  have hne : h ≠ [] := by intro e; rw [e] at hi; simp at hi
  by_cases e : i = h.length - 1
  · have h1 : cut h i = h.take (h.length - 1) := by
      unfold cut
      rw [e, List.take_set_of_le (Nat.le_refl _)]
    rw [h1, e, g_get h _ (by omega)]
    have h2 : h = h.take (h.length - 1) ++ [h[h.length - 1]'(by omega)] := by
      conv => lhs; rw [← List.take_append_drop (h.length - 1) h]
      rw [List.drop_eq_getElem_cons (by omega)]
      simp [show h.length - 1 + 1 = h.length by omega]
    conv => rhs; rw [h2]
    exact (List.perm_append_singleton _ _).symm
  · have hs := swap_perm h i (h.length - 1) hi (by omega)
    have h1 : swap h i (h.length - 1) = cut h i ++ [g h i] := by
      have h3 : (swap h i (h.length - 1)).take (h.length - 1) = cut h i := by
        unfold swap cut
        rw [List.take_set_of_le (Nat.le_refl _)]
      conv => lhs; rw [← List.take_append_drop (h.length - 1) (swap h i (h.length - 1))]
      rw [h3, List.drop_eq_getElem_cons (by rw [swap_length]; omega)]
      rw [← g_get _ _ (by rw [swap_length]; omega), swap_g h _ _ _ hi (by omega), if_pos rfl]
      rw [List.drop_of_length_le (by rw [swap_length]; omega)]
    rw [h1] at hs
    exact (List.perm_append_singleton _ _).symm.trans hs
/-- the first one is before or beside all -/
theorem Ok.first (o : Ord lt) {h : List α} (k : Ok lt h) : ∀ j, j < h.length → lt (g h j) (g h 0) = false := by
  intro j
  induction j using Nat.strongRecOn with
  | ind j ih =>
    intro hj
    by_cases e : j = 0
    · subst e; exact o.irr _
    · have := par_lt (show 0 < j by omega)
      exact o.trans _ _ _ (ih (par j) this (by omega)) (k j (by omega) hj)
end Go.Proofs.Ytmepipnledoinaa.Heap
