/- Plain Lean: names, byte by byte, as the walks of ins.name, ins.letter and the reference's Name meet them. -/
import Derived.Test.YtnlpekhohakkbaaGreatDoorPlainLib
namespace Thole
open Go

def lettI (x : Int) : Bool := decide (97 ≤ x) && decide (x ≤ 122)

theorem isLetter_iff (c : UInt8) : isLetter c = true ↔ 97 ≤ c.toNat ∧ c.toNat ≤ 122 := by
  simp only [isLetter, Bool.and_eq_true, decide_eq_true_eq, UInt8.le_iff_toNat_le]
  exact Iff.rfl

theorem isDigit_iff (c : UInt8) : isDigit c = true ↔ 48 ≤ c.toNat ∧ c.toNat ≤ 57 := by
  simp only [isDigit, Bool.and_eq_true, decide_eq_true_eq, UInt8.le_iff_toNat_le]
  exact Iff.rfl

theorem lettI_byte (c : UInt8) : lettI (c.toNat : Int) = isLetter c := by
  rw [Bool.eq_iff_iff, isLetter_iff]
  simp only [lettI, Bool.and_eq_true, decide_eq_true_eq]
  omega

theorem toNat_inj {c : UInt8} {k : Nat} (h : c.toNat = k) : c = UInt8.ofNat k := by
  rw [← h]
  simp

inductive CharIs (c : UInt8) : Prop
  | letter (h : lettI (c.toNat : Int) = true) (g : nameChar c = true)
  | digit (h : lettI (c.toNat : Int) = false) (h1 : (48 : Int) ≤ (c.toNat : Int)) (h2 : (c.toNat : Int) ≤ 57) (g : nameChar c = true)
  | dot (h : lettI (c.toNat : Int) = false) (h1 : (c.toNat : Int) < 48) (h2 : ((c.toNat : Int) != 95) = true) (h3 : ((c.toNat : Int) != 46) = false) (g : nameChar c = true)
  | low (h : lettI (c.toNat : Int) = false) (h1 : (c.toNat : Int) < 48) (h2 : ((c.toNat : Int) != 95) = true) (h3 : ((c.toNat : Int) != 46) = true) (g : nameChar c = false)
  | line (h : lettI (c.toNat : Int) = false) (h1 : (48 : Int) ≤ (c.toNat : Int)) (h2 : (57 : Int) < (c.toNat : Int)) (h3 : ((c.toNat : Int) != 95) = false) (g : nameChar c = true)
  | high (h : lettI (c.toNat : Int) = false) (h1 : (48 : Int) ≤ (c.toNat : Int)) (h2 : (57 : Int) < (c.toNat : Int)) (h3 : ((c.toNat : Int) != 95) = true) (h4 : ((c.toNat : Int) != 46) = true) (g : nameChar c = false)

theorem nameChar_false {c : UInt8} (h : lettI (c.toNat : Int) = false) (h1 : ¬ (48 ≤ c.toNat ∧ c.toNat ≤ 57)) (h2 : c.toNat ≠ 95) (h3 : c.toNat ≠ 46) : nameChar c = false := by
  rw [lettI_byte] at h
  unfold nameChar
  rw [h]
  have hd : isDigit c = false := by
    cases hd : isDigit c
    · rfl
    · exact absurd (isDigit_toNat hd) h1
  have e1 : decide (c = 95) = false := by
    rw [decide_eq_false_iff_not]
    rintro rfl
    exact h2 rfl
  have e2 : decide (c = 46) = false := by
    rw [decide_eq_false_iff_not]
    rintro rfl
    exact h3 rfl
  rw [hd, e1, e2]
  rfl

theorem charIs (c : UInt8) : CharIs c := by
  cases h : lettI (c.toNat : Int)
  · by_cases h1 : 48 ≤ c.toNat
    · by_cases h2 : c.toNat ≤ 57
      · refine .digit h (by omega) (by omega) ?_
        unfold nameChar
        rw [(isDigit_iff c).2 ⟨h1, h2⟩]
        simp
      · by_cases h3 : c.toNat = 95
        · refine .line h (by omega) (by omega) (by rw [bne_eq_false_iff_eq]; omega) ?_
          rw [toNat_inj h3]
          decide
        · exact .high h (by omega) (by omega) (by rw [bne_iff_ne]; omega) (by rw [bne_iff_ne]; omega) (nameChar_false h (by omega) h3 (by omega))
    · by_cases h3 : c.toNat = 46
      · refine .dot h (by omega) (by rw [bne_iff_ne]; omega) (by rw [bne_eq_false_iff_eq]; omega) ?_
        rw [toNat_inj h3]
        decide
      · exact .low h (by omega) (by rw [bne_iff_ne]; omega) (by rw [bne_iff_ne]; omega) (nameChar_false h (by omega) (by omega) h3)
  · refine .letter h ?_
    rw [lettI_byte] at h
    unfold nameChar
    rw [h]
    rfl

theorem byte_at (s : ByteArray) (k : Nat) (h : k < s.size) : s.data.toList[k]? = some s[k] := by
  have hl : k < s.data.toList.length := by rw [Array.length_toList]; exact h
  rw [List.getElem?_eq_getElem hl]
  rfl

theorem all_from {p : UInt8 → Bool} (s : ByteArray) (k : Nat) (h : k < s.size) : (s.data.toList.drop k).all p = (p s[k] && (s.data.toList.drop (k + 1)).all p) := by
  have hl : k < s.data.toList.length := by rw [Array.length_toList]; exact h
  rw [List.drop_eq_getElem_cons hl, List.all_cons]
  rfl

theorem size_toList (s : ByteArray) : s.data.toList.length = s.size := by
  rw [Array.length_toList]
  rfl

theorem all_end {p : UInt8 → Bool} (s : ByteArray) : (s.data.toList.drop s.size).all p = true := by
  rw [List.drop_eq_nil_of_le (by rw [size_toList]; exact Nat.le_refl _)]
  rfl

theorem nameB_short {s : ByteArray} (h : s.size < 1 ∨ 24 < s.size) : nameB s.data.toList = false := by
  unfold nameB
  rw [size_toList]
  rcases h with h | h
  · rw [decide_eq_false (by omega : ¬ 1 ≤ s.size)]
    rfl
  · rw [decide_eq_false (by omega : ¬ s.size ≤ 24)]
    simp

theorem nameB_head {s : ByteArray} (h0 : 0 < s.size) (h : lettI (s[0].toNat : Int) = false) : nameB s.data.toList = false := by
  have e : s.data.toList.headD 0 = s[0] := by
    have := byte_at s 0 h0
    cases hl : s.data.toList with
    | nil => rw [hl] at this; cases this
    | cons a l => rw [hl] at this; simpa using this
  unfold nameB
  rw [e, ← lettI_byte, h]
  simp

theorem nameB_all {s : ByteArray} (h1 : 1 ≤ s.size) (h2 : s.size ≤ 24) (h : lettI (s[0].toNat : Int) = true) : nameB s.data.toList = (s.data.toList.drop 0).all nameChar := by
  have e : s.data.toList.headD 0 = s[0] := by
    have := byte_at s 0 (by omega)
    cases hl : s.data.toList with
    | nil => rw [hl] at this; cases this
    | cons a l => rw [hl] at this; simpa using this
  unfold nameB
  rw [e, ← lettI_byte, h, size_toList, decide_eq_true h1, decide_eq_true h2]
  simp

/- ## numbers, as ins.number goes -/
/-- a text without the - ahead -/
def minusless (s : ByteArray) : Bytes := Lib.trimPrefix s.data.toList [45]
/-- what its digits leave -/
def undigits (l : Bytes) : Bytes := Lib.trimS l [48, 49, 50, 51, 52, 53, 54, 55, 56, 57]
def numV (s : ByteArray) : Option Int := numberP s.data.toList

theorem minusless_le (s : ByteArray) : (minusless s).length ≤ s.size := by
  unfold minusless Lib.trimPrefix
  rw [← size_toList s]
  split
  · rw [List.length_drop]
    omega
  · exact Nat.le_refl _

theorem numV_eq (s : ByteArray) : numV s = if 1 ≤ (minusless s).length ∧ (minusless s).length ≤ 18 ∧ (minusless s).all isDigit = true then some (if Lib.hasPrefix s.data.toList [45] = true then -(valOf 0 (minusless s) : Int) else (valOf 0 (minusless s) : Int)) else none := by
  unfold numV numberP minusless Lib.trimPrefix Lib.hasPrefix
  generalize s.data.toList = t
  cases t with
  | nil => rfl
  | cons c r =>
    by_cases h : c = 45
    · subst h
      have e : ([45] : Bytes).isPrefixOf (45 :: r) = true := by simp [List.isPrefixOf]
      simp only [e, if_true, List.length_cons, List.length_nil, List.drop_succ_cons, List.drop_zero, unsigned]
      split <;> rfl
    · have e : ([45] : Bytes).isPrefixOf (c :: r) = false := by
        simp only [List.isPrefixOf, Bool.and_true, beq_eq_false_iff_ne]
        exact fun e => h e.symm
      simp only [e, h, unsigned]
      simp only [Bool.false_eq_true, if_false]
      split <;> rfl

theorem numV_none {s : ByteArray} (h : ¬ (1 ≤ (minusless s).length ∧ (minusless s).length ≤ 18 ∧ (minusless s).all isDigit = true)) : numV s = none := by
  rw [numV_eq, if_neg h]
theorem numV_some {s : ByteArray} (h : 1 ≤ (minusless s).length ∧ (minusless s).length ≤ 18 ∧ (minusless s).all isDigit = true) : ∃ v, numV s = some v := by
  rw [numV_eq, if_pos h]
  exact ⟨_, rfl⟩
theorem undigits_nil (l : Bytes) : undigits l = [] ↔ l.all isDigit = true := trimS_digits l

theorem numV_bound {s : ByteArray} {v : Int} (h : numV s = some v) : -1000000000000000000 < v ∧ v < 1000000000000000000 := by
  rw [numV_eq] at h
  split at h
  · rename_i hc
    have hv := valOf_lt (minusless s) 0 0 hc.2.2 (by omega)
    have hp : (10 : Nat) ^ (0 + (minusless s).length) ≤ 10 ^ 18 := Nat.pow_le_pow_right (by omega) (by omega)
    injection h with h
    split at h <;> omega
  · cases h

/- ## registers, as ins.register goes -/
def restR (s : ByteArray) : Bytes := Lib.trimPrefix s.data.toList [114]
def isR (s : ByteArray) : Bool := Lib.hasPrefix s.data.toList [114]
def regV (s : ByteArray) : Option Int := registerP s.data.toList

theorem restR_le (s : ByteArray) : (restR s).length ≤ s.size := by
  unfold restR Lib.trimPrefix
  rw [← size_toList s]
  split
  · rw [List.length_drop]
    omega
  · exact Nat.le_refl _

theorem isR_true {s : ByteArray} (h : isR s = true) : s.data.toList = 114 :: restR s := by
  unfold isR at h
  unfold restR Lib.trimPrefix
  rw [h]
  revert h
  generalize s.data.toList = t
  unfold Lib.hasPrefix
  cases t with
  | nil => intro h; cases h
  | cons c r =>
    intro h
    simp only [List.isPrefixOf, Bool.and_true, beq_iff_eq] at h
    subst h
    rfl

theorem isR_cons {s : ByteArray} {rest : Bytes} (h : s.data.toList = 114 :: rest) : isR s = true ∧ restR s = rest := by
  have hp : Lib.hasPrefix (114 :: rest) [114] = true := by simp [Lib.hasPrefix, List.isPrefixOf]
  unfold isR restR Lib.trimPrefix
  rw [h, hp]
  exact ⟨rfl, rfl⟩

theorem regV_iff (s : ByteArray) (v : Int) : regV s = some v ↔ isR s = true ∧ numberP (restR s) = some v ∧ 0 ≤ v ∧ v < 16 ∧ restR s = Lib.itoa v := by
  unfold regV
  rw [registerP_iff]
  constructor
  · rintro ⟨rest, hs, h⟩
    obtain ⟨h1, h2⟩ := isR_cons hs
    rw [h2]
    exact ⟨h1, h⟩
  · rintro ⟨h1, h⟩
    exact ⟨restR s, isR_true h1, h⟩

theorem regV_none {s : ByteArray} (h : ∀ v, ¬ (isR s = true ∧ numberP (restR s) = some v ∧ 0 ≤ v ∧ v < 16 ∧ restR s = Lib.itoa v)) : regV s = none := by
  cases hr : regV s with
  | none => rfl
  | some v => exact absurd ((regV_iff s v).1 hr) (h v)

theorem numV_list (l : Bytes) : numV ⟨l.toArray⟩ = numberP l := rfl
theorem itoa_nat (n : Nat) : Lib.itoa (n : Int) = Lib.decDigits n := by
  unfold Lib.itoa
  rw [if_neg (by omega), Int.toNat_natCast]

end Thole
