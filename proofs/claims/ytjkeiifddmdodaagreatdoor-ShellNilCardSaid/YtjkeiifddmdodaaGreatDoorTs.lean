/-
  A text that begins or ends with a space, cut at the spaces, has an empty piece.
-/
import Derived.Lib.Split
import Derived.Lib.SplitLaws
import Derived.Lib.SlicesS
set_option linter.unusedVariables false
namespace Go.Sp
open Go.Lib
theorem index_sp_head (l : List UInt8) : index (32 :: l) [32] = 0 := by
  unfold index
  simp
theorem split_head (l : List UInt8) : [] ∈ splitK [32] 0 (count (32 :: l) [32]) (32 :: l) := by
  have h0 := index_sp_head l
  have hc := count_hit (s := 32 :: l) (sub := [32]) (i := 0) (by simp) (by simpa using h0)
  rw [hc, Nat.add_comm, splitK, if_neg (by rw [h0]; decide), h0]
  simp
theorem index_end : ∀ (l : List UInt8), ∃ i : Nat, index (l ++ [32]) [32] = i ∧ i ≤ l.length
  | [] => ⟨0, by simpa using index_sp_head [], by simp⟩
  | b :: l => by
    obtain ⟨i, h1, h2⟩ := index_end l
    by_cases hb : b = 32
    · subst hb
      exact ⟨0, by simpa using index_sp_head (l ++ [32]), by simp⟩
    · refine ⟨i + 1, ?_, by simp; omega⟩
      have hp : List.isPrefixOf [32] (b :: (l ++ [32])) = false := by
        simp [List.isPrefixOf]
        exact fun h => hb h.symm
      rw [List.cons_append]
      unfold index
      rw [hp, h1]
      simp
theorem split_end : ∀ (n : Nat) (l : List UInt8), l.length ≤ n → [] ∈ splitK [32] 0 (count (l ++ [32]) [32]) (l ++ [32])
  | n, l, hn => by
    obtain ⟨i, h1, h2⟩ := index_end l
    have hc := count_hit (s := l ++ [32]) (sub := [32]) (i := i) (by simp) h1
    have hd : (l ++ [32]).drop (i + 1) = if i < l.length then l.drop (i + 1) ++ [32] else [] := by
      split
      · rw [List.drop_append_of_le_length (by omega)]
      · rw [List.drop_eq_nil_of_le (by simp; omega)]
    rw [hc, Nat.add_comm, splitK, if_neg (by rw [h1]; simp), h1]
    simp only [List.length_cons, List.length_nil, Nat.zero_add, Int.toNat_natCast, hd]
    by_cases hi : i < l.length
    · rw [if_pos hi]
      cases n with
      | zero => omega
      | succ n => exact List.mem_cons_of_mem _ (split_end n _ (by simp; omega))
    · rw [if_neg hi]
      have : count ([] : List UInt8) [32] = 0 := rfl
      rw [this]
      simp [splitK]
def sp : ByteArray := ⟨#[32]⟩
theorem empty_of (l : List ByteArray) (h : [] ∈ l.map (·.data.toList)) : (⟨#[]⟩ : ByteArray) ∈ l := by
  obtain ⟨b, hb, he⟩ := List.mem_map.1 h
  have : b = ⟨#[]⟩ := by
    cases b with | mk d =>
    congr 1
    exact Array.toList_eq_nil_iff.1 he
  rw [← this]
  exact hb
/-- The pieces of a text that begins or ends with a space. -/
theorem pieces (s : ByteArray) (h : (∃ l, s.data.toList = 32 :: l) ∨ (∃ l, s.data.toList = l ++ [32])) : containsS (splitB sp 0 (countB s sp) s) ⟨#[]⟩ = true := by
  rw [containsS_iff]
  refine empty_of _ ?_
  rw [splitB_data]
  change [] ∈ splitK [32] 0 (count s.data.toList [32]) s.data.toList
  rcases h with ⟨l, h⟩ | ⟨l, h⟩
  · rw [h]; exact split_head l
  · rw [h]; exact split_end _ l (Nat.le_refl _)
theorem after (s : ByteArray) : ∃ l, (s ++ sp).data.toList = l ++ [32] := ⟨s.data.toList, by simp [sp]⟩
theorem before (s : ByteArray) : ∃ l, (sp ++ s).data.toList = 32 :: l := ⟨s.data.toList, by simp [sp]⟩
end Go.Sp
