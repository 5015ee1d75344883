/- A map from integers to bools: its look-up, its range; a set of numbers. Conditions: none. -/
import Derived.Test.YtmepipnledoinaaTwo
import Derived.Maps.RangeWalk
import Derived.Maps.OwnOps
namespace Go.Proofs.Ytmepipnledoinaa
open Go.RowKit Go.BigFrame
open Go.Maps (Keyed)
section
variable {H : Type} {P : Program} {k e : TypeId}
theorem plainElem_bool_inv (he : P.underlying e = some .bool) {v : Value} {z : DataW H × List MemPlace} (h : plainElem P e v = some z) : ∃ c, v = .bool c ∧ z = (.lit (.bool c), []) := by
  unfold plainElem at h
  rw [he] at h
  cases v <;> simp at h
  exact ⟨_, rfl, h.symm⟩
theorem lookup_bool {w : World} {t : TypeId} {b n : Nat} {D : DataW H} (h : w.ownsMap P k (plainElem P e) b n D) (K : Keyed P k) (ht : P.underlying t = some (.map k e)) (he : P.underlying e = some .bool) (hz : (zeroValue e).run P w = .ok (.bool false) w)
    {key : Value} {kl : Lit} (hkey : keyOf P k key = some kl) : ∃ c, (Instr.lookup t (.map (some b)) key false).run P w = .ok (.bool c) w ∧ D.atKey kl (.lit (.bool false)) = .lit (.bool c) := by
  obtain ⟨v, ps, hrun, hv⟩ := h.lookup K ht hz (plainElem_bool he false) hkey
  obtain ⟨c, rfl, hc⟩ := plainElem_bool_inv he hv
  simp only [Prod.mk.injEq] at hc
  exact ⟨c, hrun, hc.1⟩
theorem wpList_lookup_bool (w : World) {ops : Array Oper} {rest : List Oper} {o : Oper} {a : Act} {Q : Exit → Act → World → Prop}
    (hg : o.guard = none) (m x : Operand) (t : TypeId) (hop : o.op = Op.lookup t m x false)
    (k e : TypeId) (K : Keyed P k) (ht : P.underlying t = some (.map k e)) (he : P.underlying e = some .bool) (hz : (zeroValue e).run P w = .ok (.bool false) w) (b n : Nat) (D : DataW H)
    (hm : a.eval m = .map (some b)) (hown : w.ownsMap P k (plainElem P e) b n D) (key : Value) (kl : Lit) (hx : a.eval x = key) (hkey : keyOf P k key = some kl) (c : Bool) (hc : D.atKey kl (.lit (.bool false)) = .lit (.bool c))
    (hK : wpList P ops Q rest (a.put o.dst (.bool c)) w) :
    wpList P ops Q (o :: rest) a w := by
  refine wpList_plain hg fun K' hK' => ?_
  obtain ⟨c', hrun, hat⟩ := lookup_bool hown K ht he hz hkey
  rw [hat] at hc
  simp at hc
  subst hc
  unfold Oper.wp
  simp [execOp, hop, hm, hx, hrun, Result.andThen]
  exact hK' _ _ hK
theorem wpList_next_ib (w : World) {ops : Array Oper} {rest : List Oper} {o : Oper} {a : Act} {Q : Exit → Act → World → Prop}
    (hg : o.guard = none) (it : Operand) (hop : o.op = Op.next it false) (k e : TypeId) (qk : IntKind) (K : Keyed P k) (hk : P.underlying k = some (.int qk)) (he : P.underlying e = some .bool)
    (b r n : Nat) (D : DataW H) (left : Lit → Bool) (cnt : Nat) (hit : a.eval it = .pointer (some ⟨r, 0, none⟩)) (h : w.ranges P k (plainElem P e) b r n D left cnt)
    (hDone : cnt = 0 → (∀ kl, left kl = false) → wpList P ops Q rest (a.put o.dst (.tuple #[.bool false])) w)
    (hMore : ∀ (x : Int) (v : Value) (w' : World) (cnt' : Nat), (Lit.int qk x).wf = true → left (.int qk x) = true → Maps.has D (.int qk x) = true → w'.ranges P k (plainElem P e) b r n D (fun z => left z && !z.sameKey (.int qk x)) cnt' → cnt' < cnt →
      w.grownBy w' (some r) → w'.heap.size = w.heap.size → (Instr.entry (.pointer (some ⟨r, 0, none⟩))).run P w' = .ok (.tuple #[.int qk x, v]) w' → wpList P ops Q rest (a.put o.dst (.tuple #[.bool true, .int qk x, v])) w') :
    wpList P ops Q (o :: rest) a w :=
  wpList_next_ranges w hg it hop k K (plainElem P e) (Value.int qk) Value.bool (fun key kl hkey => by obtain ⟨x, rfl, _⟩ := Maps.keyOf_int_inv hk hkey; exact ⟨x, rfl⟩) (fun v y hv => by obtain ⟨c, rfl, _⟩ := plainElem_bool_inv he hv; exact ⟨c, rfl⟩)
    b r n D left cnt hit h hDone (fun x c kl y w' cnt' hkey hlk hv hat hrg hlt hgr hsz hen => by
      obtain ⟨x', ex, rfl, hwx⟩ := Maps.keyOf_int_inv hk hkey
      cases ex
      obtain ⟨c', ec, rfl⟩ := plainElem_bool_inv he hv
      cases ec
      exact hMore x (.bool c) w' cnt' hwx hlk (Maps.has_true_of_atKey hat) hrg hlt hgr hsz hen)
theorem ownsMap_kp {w w' : World} {R : Value → Option (DataW H × List MemPlace)} {M n q : Nat} {r : Option Nat} {D : DataW H} (h : w.ownsMap P k R M n D) (kp : Kp w w' q r) (h1 : M ≠ q) (h2 : some M ≠ r) : w'.ownsMap P k R M n D := by
  have hlt := h.lt
  obtain ⟨es, clock, hb, F, hs, hD⟩ := h
  exact ⟨es, clock, (kp.block M hlt h1 h2).trans hb, F, hs, hD⟩
theorem ranges_kp {w w' : World} {R : Value → Option (DataW H × List MemPlace)} {M it n q cnt : Nat} {r : Option Nat} {D : DataW H} {left : Lit → Bool} (h : w.ranges P k R M it n D left cnt) (kp : Kp w w' q r) (h1 : M ≠ q) (h2 : some M ≠ r) (h3 : it ≠ q) (h4 : some it ≠ r) : w'.ranges P k R M it n D left cnt := by
  have l1 := h.owns.lt
  have l2 := h.lt
  obtain ⟨es, clock, since, seen, c0, hb, F, hs, hD, hr, rest⟩ := h
  exact ⟨es, clock, since, seen, c0, (kp.block M l1 h1 h2).trans hb, F, hs, hD, (kp.block it l2 h3 h4).trans hr, rest⟩
end
/-- the set of the first numbers, as the map reads -/
abbrev keys (E : List Int) (i : Nat) : List Lit := (E.take i).map (Lit.int .i64)
def goneD (E : List Int) (i : Nat) : DataW Unit := Maps.setOf (.lit (.bool true)) (keys E i)
theorem goneD_succ (E : List Int) (i : Nat) (hi : i < E.length) : goneD E (i + 1) = (goneD E i).put (.int .i64 (E.getD i 0)) (.lit (.bool true)) := by
  unfold goneD
  rw [← Maps.setOf_snoc]
  congr 1
  unfold keys
  rw [← List.take_append_getElem hi, List.map_append, List.getD_eq_getElem?_getD, List.getElem?_eq_getElem hi]
  rfl
theorem keys_are (E : List Int) (i : Nat) : ∀ x ∈ keys E i, WideAt.IsKeyLit x := by
  intro x hx
  obtain ⟨y, _, rfl⟩ := List.mem_map.1 hx
  trivial
theorem goneD_has (E : List Int) (i : Nat) (x : Int) : Maps.has (goneD E i) (.int .i64 x) = decide (x ∈ E.take i) := by
  unfold goneD
  rw [Maps.has_setOf _ _ _ (keys_are E i), Bool.eq_iff_iff, List.any_eq_true, decide_eq_true_iff]
  constructor
  · rintro ⟨y, hy, h⟩
    obtain ⟨z, hz, rfl⟩ := List.mem_map.1 hy
    have := WideAt.sameKey_eq h
    injection this with _ e
    exact e ▸ hz
  · intro h
    exact ⟨_, List.mem_map_of_mem h, WideAt.sameKey_self trivial⟩
theorem at_fold (u z : DataW Unit) (k : Lit) (hk : WideAt.IsKeyLit k) : ∀ (acc : List Lit) (m : DataW Unit), Maps.IsMap m → m.atKey k z = (if Maps.has m k then u else z) → (∀ x ∈ acc, WideAt.IsKeyLit x) →
    (acc.foldl (fun m x => m.put x u) m).atKey k z = if Maps.has (acc.foldl (fun m x => m.put x u) m) k then u else z
  | [], _, _, h, _ => h
  | x :: acc, m, hm, h, ha => by
    rw [List.foldl_cons]
    refine at_fold u z k hk acc _ (hm.put _ _) ?_ (fun y hy => ha y (List.mem_cons_of_mem _ hy))
    by_cases e : k = x
    · subst e
      rw [Maps.atKey_put_same hm hk, Maps.has_put_same hm hk]
      rfl
    · rw [Maps.atKey_put_other e, Maps.has_put_other e]
      exact h
theorem goneD_at (E : List Int) (i : Nat) (x : Int) : (goneD E i).atKey (.int .i64 x) (.lit (.bool false)) = .lit (.bool (decide (x ∈ E.take i))) := by
  rw [← goneD_has]
  unfold goneD Maps.setOf
  rw [at_fold (.lit (.bool true)) (.lit (.bool false)) (.int .i64 x) trivial (keys E i) (.map []) Maps.isMap_empty (by simp [Maps.has, DataW.atKey]) (keys_are E i)]
  cases Maps.has (List.foldl (fun m x => m.put x (.lit (.bool true))) (.map []) (keys E i)) (Lit.int IntKind.i64 x) <;> rfl
/-- one item goes out of those that are kept -/
theorem filter_out {x : It} {p : It → Bool} : ∀ {l : List It}, (l.map It.stamp).Nodup → x ∈ l → p x = true → (l.filter p).Perm (x :: l.filter fun y => p y && decide (y.stamp ≠ x.stamp))
  | y :: l, hn, hx, hp => by
    rw [List.map_cons, List.nodup_cons] at hn
    by_cases e : y.stamp = x.stamp
    · have hyx : y = x := by
        rcases List.mem_cons.1 hx with h | h
        · exact h.symm
        · exact absurd (e ▸ List.mem_map_of_mem (f := It.stamp) h) hn.1
      subst hyx
      rw [List.filter_cons_of_pos hp, List.filter_cons_of_neg (by simp)]
      refine List.Perm.cons _ ?_
      rw [List.filter_congr (q := fun z => p z && decide (z.stamp ≠ y.stamp))]
      intro z hz
      have : z.stamp ≠ y.stamp := fun h => hn.1 (h ▸ List.mem_map_of_mem (f := It.stamp) hz)
      simp [this]
    · have hx' : x ∈ l := by
        rcases List.mem_cons.1 hx with h | h
        · exact absurd (by rw [h]) e
        · exact h
      have ih := filter_out hn.2 hx' hp
      by_cases hy : p y = true
      · rw [List.filter_cons_of_pos hy, List.filter_cons_of_pos (by simp [hy, e])]
        exact (ih.cons _).trans (List.Perm.swap ..)
      · rw [List.filter_cons_of_neg hy, List.filter_cons_of_neg (by simp [hy])]
        exact ih
end Go.Proofs.Ytmepipnledoinaa
