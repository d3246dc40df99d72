/- Plain Lean: the counts of an assembler. -/
import Derived.Test.YtnlpekhohakkbaaGreatDoorPlainMoved
namespace Thole

theorem nameB_le {s : Bytes} (h : nameB s = true) : s.length ≤ 24 := by
  unfold nameB at h
  simp at h
  omega
theorem parseP_label_le {s : Bytes} {l : LineP} (h : parseP s = some l) : l.label.length ≤ 24 := by
  unfold parseP at h
  simp only at h
  split at h
  · cases h; exact Nat.zero_le _
  split at h
  · split at h
    · rename_i hn
      cases h
      exact nameB_le hn
    · cases h
  · rw [(parseWords_target h).1]
    exact Nat.zero_le _

theorem fieldP_target_le {l l' : LineP} {w : UInt8} {s : Bytes} (h : fieldP l w s = some l') (ht : l.target.length ≤ 24) : l'.target.length ≤ 24 := by
  unfold fieldP at h
  split at h
  · obtain ⟨v, _, rfl⟩ := Option.map_eq_some_iff.1 h; exact ht
  split at h
  · obtain ⟨v, _, rfl⟩ := Option.map_eq_some_iff.1 h; exact ht
  split at h
  · obtain ⟨v, _, rfl⟩ := Option.map_eq_some_iff.1 h; exact ht
  split at h
  · obtain ⟨v, _, rfl⟩ := Option.map_eq_some_iff.1 h; exact ht
  split at h
  · rename_i hn
    cases h
    exact nameB_le hn
  · cases h
theorem fieldsP_target_le : ∀ (has : Bytes) (ws : List Bytes) (l l' : LineP), fieldsP l has ws = some l' → l.target.length ≤ 24 → l'.target.length ≤ 24
  | [], _, l, l', h, ht => by unfold fieldsP at h; cases h; exact ht
  | _ :: _, [], l, l', h, ht => by unfold fieldsP at h; cases h; exact ht
  | w :: has, s :: ws, l, l', h, ht => by
    unfold fieldsP at h
    obtain ⟨l1, h1, h2⟩ := Option.bind_eq_some_iff.1 h
    exact fieldsP_target_le has ws l1 l' h2 (fieldP_target_le h1 ht)
theorem parseP_target_le {s : Bytes} {l : LineP} (h : parseP s = some l) : l.target.length ≤ 24 := by
  unfold parseP at h
  simp only at h
  split at h
  · cases h; exact Nat.zero_le _
  split at h
  · split at h
    · cases h
      exact Nat.zero_le _
    · cases h
  unfold parseWords at h
  split at h
  · cases h
  split at h
  · cases h
  rename_i hf
  split at h
  · cases h
  cases h
  exact fieldsP_target_le _ _ _ _ hf (Nat.zero_le _)

/-- what the counts are of an assembler that has taken so many lines -/
structure AsmOk (a : Asm) (m : Nat) : Prop where
  gone : a.gone.length ≤ a.code.length
  code : a.code.length ≤ 1024
  labels : a.labels.length ≤ m
  goes : ∀ x ∈ a.gone, ∃ k : Nat, x.1 = (k : Int) ∧ k < a.code.length
  names : ∀ x ∈ a.gone, x.2.2.length ≤ 24

theorem lineP_ok {a b : Asm} {s : Bytes} {n : Int} {m : Nat} (h : AsmOk a m) (he : lineP a s n = .ok b) : AsmOk b (m + 1) := by
  unfold lineP at he
  split at he
  · cases he
  rename_i l hpl
  split at he
  · split at he
    · cases he
    · cases he
      exact ⟨h.gone, h.code, by simp [h.labels], h.goes, h.names⟩
  split at he
  · cases he
    exact ⟨h.gone, h.code, Nat.le_succ_of_le h.labels, h.goes, h.names⟩
  split at he
  · cases he
  cases he
  have := h.gone
  have := h.code
  refine ⟨?_, by simp; omega, Nat.le_succ_of_le h.labels, ?_, ?_⟩
  · split <;> simp <;> omega
  · intro x hx
    have old : x ∈ a.gone → ∃ k : Nat, x.1 = (k : Int) ∧ k < (a.code ++ [l.ins]).length := fun hx => by
      obtain ⟨k, h1, h2⟩ := h.goes x hx
      exact ⟨k, h1, by simp; omega⟩
    simp only at hx
    split at hx
    · rcases List.mem_append.1 hx with hx | hx
      · exact old hx
      · simp at hx
        subst hx
        exact ⟨a.code.length, rfl, by simp⟩
    · exact old hx
  · intro x hx
    simp only at hx
    split at hx
    · rcases List.mem_append.1 hx with hx | hx
      · exact h.names x hx
      · simp at hx
        subst hx
        exact parseP_target_le hpl
    · exact h.names x hx

end Thole
