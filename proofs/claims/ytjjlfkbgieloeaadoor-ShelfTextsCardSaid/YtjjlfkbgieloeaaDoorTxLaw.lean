/- The walk of the law ShelfTexts, joined. Conditions: the library's variable holds some number. -/
import Derived.Test.YtjjlfkbgieloeaaDoorStexts
namespace Go.Proofs.YtjjlfkbgieloeaaDoor
open Go.RowKit Go.PlainAid
theorem isPlace_none (g : ByteArray) (st : Int) : isPlace g ⟨#[]⟩ st = false := by
  unfold isPlace
  have e : isName ⟨#[]⟩ 4 = false := by decide
  rw [e, Bool.and_false, Bool.false_and]
theorem zero_show (w : World) : Calls Tryd.prog 40 #[.agg #[.string ⟨#[]⟩, .string ⟨#[]⟩, .int .i64 0]] w fun e w' => e = .returned (.string ⟨#[]⟩) ∧ Below w.heap.size w w' :=
  pshow_no ⟨#[]⟩ ⟨#[]⟩ 0 w (by decide) (by decide) (isPlace_none _ _)
theorem walkShelfTexts (s : ByteArray) (_hs : s.size ≤ maxLen) (st : Int) (_hst : (Lit.int .i64 st).wf = true) (w : World) (m : Int) (hm : MaxLenIs m w) :
    Calls Tryd.prog 13 #[.string s, .int .i64 st] w fun e w' => e = .returned (.bool true) ∧ Below w.heap.size w w' := by
  by_cases h100 : 100 < s.size
  · exact tx_l s st w h100
  have h100' : s.size ≤ 100 := by omega
  rcases Lib.index_spec s.data.toList [64] with ⟨hi, _⟩ | ⟨k, hi, hk, ho, _⟩
  · have hat : atI s 0 = -1 := by unfold atI; rw [List.drop_zero, if_pos hi]
    have hc : Lib.cut s.data.toList [64] = (s.data.toList, [], false) := by unfold Lib.cut; rw [hi]; rfl
    have HC : ∀ w, MaxLenIs m w → Calls Tryd.prog 52 #[.string s, .string ⟨#[64]⟩] w fun e w' => e = .returned (.tuple #[.string s, .string ⟨#[]⟩, .bool false]) ∧ Below w.heap.size w w' := fun w hm => cut_call s s ⟨#[]⟩ false m w h100' hm (by rw [hc]) (by rw [hc]) (by rw [hc])
    exact tx_n s st m w h100' hm hat (fun w hm => sparse_no s s ⟨#[]⟩ st false m w hm HC (fun w => good_is s ⟨#[]⟩ st false w (by omega) (by decide) (isPlace_none _ _))) zero_show
  · have hroom := Lib.index_room s.data.toList [64] (by omega)
    have hl : s.data.toList.length = s.size := rfl
    have hks : k < s.size := by simp at hroom; rw [hi] at hroom; have := hl; simp at this; omega
    have hat : atI s 0 = k := by unfold atI; rw [List.drop_zero, hi, if_neg (by omega)]; omega
    have hc : Lib.cut s.data.toList [64] = (s.data.toList.take k, s.data.toList.drop (k + 1), true) := by
      unfold Lib.cut
      rw [hi, if_pos (by omega)]
      rfl
    have eG : s.extract 0 k = ⟨(s.data.toList.take k).toArray⟩ := by
      apply ByteArray.ext
      apply Array.toList_inj.1
      simp
    have eS : s.extract (k + 1) s.size = ⟨(s.data.toList.drop (k + 1)).toArray⟩ := by
      apply ByteArray.ext
      apply Array.toList_inj.1
      simp
      rw [List.take_of_length_le (by simp)]
    have HC : ∀ w, MaxLenIs m w → Calls Tryd.prog 52 #[.string s, .string ⟨#[64]⟩] w fun e w' => e = .returned (.tuple #[.string (s.extract 0 k), .string (s.extract (k + 1) s.size), .bool true]) ∧ Below w.heap.size w w' := fun w hm => cut_call s _ _ true m w h100' hm (by rw [hc, eG]) (by rw [hc, eS]) (by rw [hc])
    have z1 : (s.extract 0 k).size ≤ 9223372036854775807 := by rw [ByteArray.size_extract]; omega
    have z2 : (s.extract (k + 1) s.size).size ≤ 9223372036854775807 := by rw [ByteArray.size_extract]; omega
    cases hp : isPlace (s.extract 0 k) (s.extract (k + 1) s.size) st
    · exact tx_f s st m k w h100' hm hat hks (fun w hm => sparse_no s _ _ st true m w hm HC (fun w => good_is _ _ st false w z1 z2 hp)) (fun w => by have := refgood_any (s.extract 0 k) (s.extract (k + 1) s.size) st w; rwa [hp] at this) zero_show
    · have hsh : s.extract 0 k ++ ⟨#[64]⟩ ++ s.extract (k + 1) s.size = s := by
        have hb : s.data.toList[k]'hks = 64 := by
          unfold Lib.occAt at ho
          rw [atI_cons s k hks] at ho
          simp only [List.isPrefixOf, Bool.and_true, beq_iff_eq] at ho
          exact ho.symm
        rw [eG, eS]
        apply ByteArray.ext
        apply Array.toList_inj.1
        have : s.data.toList.take k ++ [64] ++ s.data.toList.drop (k + 1) = s.data.toList := by
          rw [← hb, List.append_assoc, List.singleton_append, ← atI_cons s k hks, List.take_append_drop]
        simpa using this
      refine tx_y s st m k w h100' hm hat hks (fun w hm => sparse_yes s _ _ st true m w hm HC (fun w => good_is _ _ st true w z1 z2 hp)) (fun w => by have := refgood_any (s.extract 0 k) (s.extract (k + 1) s.size) st w; rwa [hp] at this) (fun w => ?_)
      have := pshow_yes (s.extract 0 k) (s.extract (k + 1) s.size) st w z1 z2 hp
      rwa [hsh] at this
end Go.Proofs.YtjjlfkbgieloeaaDoor
