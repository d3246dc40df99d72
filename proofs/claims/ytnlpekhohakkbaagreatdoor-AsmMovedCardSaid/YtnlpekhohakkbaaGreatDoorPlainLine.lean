/- Plain Lean: a line, shape by shape, as the walk of ins.Parse goes. -/
import Derived.Test.YtnlpekhohakkbaaGreatDoorPlainName
namespace Thole
open Go

def trimV (s : ByteArray) : Bytes := trimWs s.data.toList
def allShapes : List (Bytes × Bytes) := ([], []) :: words
def shapeAt (k : Nat) : Bytes × Bytes := allShapes.getD k ([], [])
/-- does shape k fit the words? -/
def hit (ws : List Bytes) (k : Nat) : Prop := (shapeAt k).1 ≠ [] ∧ (shapeAt k).1 = ws.headD [] ∧ (shapeAt k).2.length = ws.length - 1
/-- a line that has its number alone -/
def opLine (k : Nat) : LineP := { LineP.none with ins := { LineP.none.ins with op := k } }

theorem allShapes_length : allShapes.length = 23 := rfl
theorem shape_word : ∀ k, k < 23 → ((shapeAt k).1 = [] ↔ k = 0) := by decide
theorem shape_has : ∀ k, k < 23 → (shapeAt k).2.all (fun w => decide (w = 65) || decide (w = 66) || decide (w = 67) || decide (w = 78) || decide (w = 84)) = true := by decide
theorem shape_nodup : ∀ i, i < 23 → ∀ j, j < 23 → (shapeAt i).1 = (shapeAt j).1 → i = j := by decide

theorem shapeOf_at (w : Bytes) (n : Nat) : ∀ (l : List (Bytes × Bytes)) (k : Nat), shapeOf w n k l = none ∧ (∀ j, j < l.length → ¬ ((l.getD j ([], [])).1 = w ∧ (l.getD j ([], [])).2.length = n)) ∨
    ∃ j, j < l.length ∧ shapeOf w n k l = some (k + j, (l.getD j ([], [])).2) ∧ (l.getD j ([], [])).1 = w ∧ (l.getD j ([], [])).2.length = n
  | [], k => .inl ⟨rfl, fun j h => by simp at h⟩
  | (a, b) :: l, k => by
    unfold shapeOf
    by_cases h : a = w ∧ b.length = n
    · rw [if_pos h]
      exact .inr ⟨0, by simp, rfl, h.1, h.2⟩
    · rw [if_neg h]
      rcases shapeOf_at w n l (k + 1) with ⟨h1, h2⟩ | ⟨j, h1, h2, h3⟩
      · refine .inl ⟨h1, fun j hj => ?_⟩
        cases j with
        | zero => exact h
        | succ j => exact h2 j (by simpa using hj)
      · exact .inr ⟨j + 1, by simpa using h1, by rw [h2, show k + 1 + j = k + (j + 1) by omega]; rfl, h3⟩

theorem shape_succ (j : Nat) : shapeAt (j + 1) = words.getD j ([], []) := rfl

theorem parseWords_none {ws : List Bytes} (h : ∀ k, k < 23 → ¬ hit ws k) : parseWords ws = none := by
  unfold parseWords
  rcases shapeOf_at (ws.headD []) (ws.length - 1) words 1 with ⟨h1, _⟩ | ⟨j, h1, h2, h3, h4⟩
  · rw [h1]
  · have hl : words.length = 22 := rfl
    rw [hl] at h1
    exact absurd ⟨by rw [Ne, shape_word (j + 1) (by omega)]; omega, h3, h4⟩ (h (j + 1) (by omega))

theorem parseWords_hit {ws : List Bytes} {k : Nat} (hk : k < 23) (h : hit ws k) :
    parseWords ws = match fieldsP (opLine k) (shapeAt k).2 ws.tail with | none => none | some l => if l.ins.op = 7 ∧ 13 < l.ins.a then none else some l := by
  obtain ⟨h1, h2, h3⟩ := h
  have hk0 : k ≠ 0 := by rw [Ne, shape_word k hk] at h1; exact h1
  unfold parseWords
  have hl : words.length = 22 := rfl
  rcases shapeOf_at (ws.headD []) (ws.length - 1) words 1 with ⟨_, g⟩ | ⟨j, g1, g2, g3, g4⟩
  · exact absurd ⟨by rw [← h2, ← shape_succ, show k - 1 + 1 = k by omega], by rw [← h3, ← shape_succ, show k - 1 + 1 = k by omega]⟩ (g (k - 1) (by omega))
  · rw [hl] at g1
    have : k = j + 1 := shape_nodup k hk (j + 1) (by omega) (by rw [h2, shape_succ, g3])
    subst this
    rw [g2]
    simp only
    rw [show 1 + j = j + 1 by omega]
    rfl

theorem fieldsP_step (l : LineP) (has : Bytes) (ws : List Bytes) (i : Nat) (h1 : i < has.length) (h2 : i < ws.length) :
    fieldsP l (has.drop i) (ws.drop i) = (fieldP l has[i] ws[i]).bind fun l => fieldsP l (has.drop (i + 1)) (ws.drop (i + 1)) := by
  rw [List.drop_eq_getElem_cons h1, List.drop_eq_getElem_cons h2]
  rfl

theorem fieldsP_end (l : LineP) (has : Bytes) (ws : List Bytes) (i : Nat) (h : has.length ≤ i) : fieldsP l (has.drop i) (ws.drop i) = some l := by
  rw [List.drop_eq_nil_of_le h]
  rfl

theorem count_le_length (c : UInt8) : ∀ s : Bytes, Lib.count s [c] ≤ s.length
  | [] => Nat.le_refl _
  | x :: s => by
    have ih := count_le_length c s
    rw [count_one, List.length_cons]
    split <;> omega

theorem splitOn'_mem (c : UInt8) : ∀ (s : Bytes) (x : Bytes), x ∈ splitOn' c s → x.length ≤ s.length
  | [], x, h => by
    simp only [splitOn', List.mem_singleton] at h
    subst h
    exact Nat.le_refl _
  | a :: s, x, h => by
    have ih := splitOn'_mem c s
    unfold splitOn' at h
    split at h
    · rcases List.mem_cons.1 h with rfl | h
      · exact Nat.zero_le _
      · have := ih x h
        rw [List.length_cons]
        omega
    · split at h
      · rename_i y ys he
        rw [he] at ih
        rcases List.mem_cons.1 h with rfl | h
        · have := ih y (by simp)
          rw [List.length_cons, List.length_cons]
          omega
        · have := ih x (by simp [h])
          rw [List.length_cons]
          omega
      · simp only [List.mem_singleton] at h
        subst h
        simp

/- ## labels -/
def isL (t : Bytes) : Bool := Lib.hasSuffix t [58]
def cutL (t : Bytes) : Bytes := Lib.trimSuffix t [58]

theorem hasSuffix_last (t : Bytes) (c : UInt8) (h : t ≠ []) : Lib.hasSuffix t [c] = decide (t.getLastD 0 = c) := by
  obtain ⟨l, a, rfl⟩ : ∃ l a, t = l ++ [a] := ⟨t.dropLast, t.getLast h, (List.dropLast_concat_getLast h).symm⟩
  unfold Lib.hasSuffix
  rw [List.isSuffixOf, List.reverse_append]
  simp only [List.reverse_cons, List.reverse_nil, List.nil_append, List.singleton_append, List.isPrefixOf, Bool.and_true]
  rw [Bool.eq_iff_iff]
  simp only [beq_iff_eq, decide_eq_true_eq]
  rw [List.getLastD_eq_getLast?, List.getLast?_append]
  simp
  exact eq_comm

theorem cutL_eq {t : Bytes} (h : isL t = true) : cutL t = t.dropLast := by
  unfold cutL Lib.trimSuffix
  unfold isL at h
  rw [h, if_pos rfl, List.dropLast_eq_take]
  rfl

theorem trimV_le (s : ByteArray) : (trimV s).length ≤ s.size := by
  unfold trimV trimWs
  rw [← size_toList s]
  refine Nat.le_trans ((List.dropWhile_sublist _).length_le) ?_
  rw [List.length_reverse]
  refine Nat.le_trans ((List.dropWhile_sublist _).length_le) ?_
  rw [List.length_reverse]
  exact Nat.le_refl _

theorem nameV_bytes (l : Bytes) : nameB (⟨l.toArray⟩ : ByteArray).data.toList = nameB l := rfl

theorem head_ne {c : UInt8} (hc : ((c.toNat : Int) == 59) = false) : c ≠ 59 := by
  rintro rfl
  revert hc
  decide

theorem parse_label {s : ByteArray} {c : UInt8} {r : Bytes} (h : trimV s = c :: r) (hc : ((c.toNat : Int) == 59) = false) (hl : isL (c :: r) = true) :
    parseP s.data.toList = if nameB (cutL (c :: r)) = true then some { LineP.none with label := cutL (c :: r) } else none := by
  have hne := head_ne hc
  unfold parseP
  simp only
  rw [show trimWs s.data.toList = c :: r from h, if_neg (by simp [hne]), cutL_eq hl]
  rw [if_pos]
  unfold isL at hl
  rw [hasSuffix_last _ _ (by simp)] at hl
  exact of_decide_eq_true hl

theorem parse_words {s : ByteArray} {c : UInt8} {r : Bytes} (h : trimV s = c :: r) (hc : ((c.toNat : Int) == 59) = false) (hl : isL (c :: r) = false) :
    parseP s.data.toList = parseWords (splitOn' 32 (c :: r)) := by
  have hne := head_ne hc
  unfold parseP
  simp only
  rw [show trimWs s.data.toList = c :: r from h, if_neg (by simp [hne])]
  rw [if_neg]
  unfold isL at hl
  rw [hasSuffix_last _ _ (by simp)] at hl
  exact of_decide_eq_false hl

end Thole
