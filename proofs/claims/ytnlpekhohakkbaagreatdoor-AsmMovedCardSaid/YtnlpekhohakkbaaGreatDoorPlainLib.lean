/- Plain Lean: the library's words on texts (strings, strconv) and the plain ones. -/
import Derived.Test.YtnlpekhohakkbaaGreatDoorPlainAsm
import Derived.Lib.Split
import Derived.Lib.SlTrimSet
import Derived.Lib.ParseIntBCases
import Derived.Lib.ItoaNum
namespace Thole
open Go

theorem trimWs_eq (s : Bytes) : Lib.trimS s [32, 9] = trimWs s := by
  have h : (fun c : UInt8 => [32, 9].contains c) = isWs := by
    funext c
    simp [isWs]
  unfold Lib.trimS Lib.trimLeftS Lib.trimRightS trimWs
  rw [h]

theorem splitOn'_ne (c : UInt8) : ∀ s, splitOn' c s ≠ []
  | [] => by simp [splitOn']
  | x :: r => by
    unfold splitOn'
    split
    · simp
    · split <;> simp

theorem index_one (x c : UInt8) (s : Bytes) : Lib.index (x :: s) [c] = if x = c then 0 else if Lib.index s [c] = -1 then -1 else Lib.index s [c] + 1 := by
  rw [Lib.index]
  by_cases h : x = c
  · subst h
    simp [List.isPrefixOf]
  · have h' : (c == x) = false := by
      rw [beq_eq_false_iff_ne]
      exact fun e => h e.symm
    simp [List.isPrefixOf, h', h]

theorem splitK_one (c : UInt8) : ∀ (s : Bytes) (k : Nat), Lib.count s [c] ≤ k → Lib.splitK [c] 0 k s = splitOn' c s
  | [], k, _ => by
    have h : Lib.index [] [c] = -1 := rfl
    cases k with
    | zero => rfl
    | succ k => simp [Lib.splitK, h, splitOn']
  | x :: s, k, hk => by
    by_cases hx : x = c
    · subst hx
      have hi : Lib.index (x :: s) [x] = ((0 : Nat) : Int) := by rw [index_one, if_pos rfl]; rfl
      have hc := Lib.count_hit (sub := [x]) (by simp) hi
      simp only [List.length_cons, List.length_nil, Nat.zero_add, List.drop_succ_cons, List.drop_zero] at hc
      rw [hc] at hk
      obtain ⟨j, rfl⟩ : ∃ j, k = j + 1 := ⟨k - 1, by omega⟩
      have ih := splitK_one x s j (by omega)
      unfold Lib.splitK
      rw [hi]
      simp only [splitOn', if_true]
      rw [if_neg (by decide)]
      simp [ih]
    · rcases Lib.index_spec s [c] with ⟨hm, _⟩ | ⟨i, hi, hil, _, _⟩
      · have hi : Lib.index (x :: s) [c] = -1 := by rw [index_one, if_neg hx, if_pos hm]
        have ih := splitK_one c s k (by rw [Lib.count_miss hm]; omega)
        have e1 : Lib.splitK [c] 0 k (x :: s) = [x :: s] := by
          cases k with
          | zero => rfl
          | succ k => simp [Lib.splitK, hi]
        have e2 : Lib.splitK [c] 0 k s = [s] := by
          cases k with
          | zero => rfl
          | succ k => simp [Lib.splitK, hm]
        rw [e1]
        rw [e2] at ih
        unfold splitOn'
        rw [if_neg hx, ← ih]
      · have hi' : Lib.index (x :: s) [c] = ((i + 1 : Nat) : Int) := by
          rw [index_one, if_neg hx, if_neg (by omega), hi]
          push_cast
          rfl
        have hc := Lib.count_hit (sub := [c]) (by simp) hi
        have hc' := Lib.count_hit (sub := [c]) (by simp) hi'
        simp only [List.length_cons, List.length_nil, Nat.zero_add, List.drop_succ_cons] at hc hc'
        have heq : Lib.count (x :: s) [c] = Lib.count s [c] := by rw [hc, hc']
        have ih := splitK_one c s k (by omega)
        rw [heq, hc] at hk
        obtain ⟨j, rfl⟩ : ∃ j, k = j + 1 := ⟨k - 1, by omega⟩
        unfold Lib.splitK at ih ⊢
        rw [hi] at ih
        rw [hi']
        rw [if_neg (by intro e; have := beq_iff_eq.1 e; omega)] at ih ⊢
        simp only [Int.toNat_natCast, Nat.add_zero, List.length_cons, List.length_nil, Nat.zero_add, List.take_succ_cons, List.drop_succ_cons] at ih ⊢
        unfold splitOn'
        rw [if_neg hx, ← ih]

theorem splitB_eq (c : UInt8) (s sep : ByteArray) (hs : sep.data.toList = [c]) : (Lib.splitB sep 0 (Lib.countB s sep) s).map (·.data.toList) = splitOn' c s.data.toList := by
  rw [Lib.splitB_data, hs]
  refine splitK_one c _ _ ?_
  unfold Lib.countB
  rw [hs]
  exact Nat.le_refl _

theorem count_one (x c : UInt8) (s : Bytes) : Lib.count (x :: s) [c] = if x = c then 1 + Lib.count s [c] else Lib.count s [c] := by
  by_cases hx : x = c
  · subst hx
    have hi : Lib.index (x :: s) [x] = ((0 : Nat) : Int) := by rw [index_one, if_pos rfl]; rfl
    have hc := Lib.count_hit (sub := [x]) (by simp) hi
    rw [if_pos rfl, hc]
    rfl
  · rw [if_neg hx]
    rcases Lib.index_spec s [c] with ⟨hm, _⟩ | ⟨i, hi, _, _, _⟩
    · have hi : Lib.index (x :: s) [c] = -1 := by rw [index_one, if_neg hx, if_pos hm]
      rw [Lib.count_miss hi, Lib.count_miss hm]
    · have hi' : Lib.index (x :: s) [c] = ((i + 1 : Nat) : Int) := by
        rw [index_one, if_neg hx, if_neg (by omega), hi]
        push_cast
        rfl
      have hc := Lib.count_hit (sub := [c]) (by simp) hi
      have hc' := Lib.count_hit (sub := [c]) (by simp) hi'
      simp only [List.length_cons, List.length_nil, Nat.zero_add, List.drop_succ_cons] at hc hc'
      rw [hc, hc']

theorem splitOn'_length (c : UInt8) : ∀ s : Bytes, (splitOn' c s).length = Lib.count s [c] + 1
  | [] => rfl
  | x :: s => by
    have ih := splitOn'_length c s
    rw [count_one]
    unfold splitOn'
    by_cases hx : x = c
    · rw [if_pos hx, if_pos hx, List.length_cons, ih]
      omega
    · rw [if_neg hx, if_neg hx]
      have hne := splitOn'_ne c s
      cases hs : splitOn' c s with
      | nil => exact absurd hs hne
      | cons a l =>
        rw [hs] at ih
        simpa using ih

theorem splitB_bytes (c : UInt8) (s sep : ByteArray) (hs : sep.data.toList = [c]) : Lib.splitB sep 0 (Lib.countB s sep) s = (splitOn' c s.data.toList).map fun l => (⟨l.toArray⟩ : ByteArray) := by
  rw [← splitB_eq c s sep hs, List.map_map]
  have : ((fun l : Bytes => (⟨l.toArray⟩ : ByteArray)) ∘ fun x : ByteArray => x.data.toList) = id := by
    funext x
    obtain ⟨⟨l⟩⟩ := x
    rfl
  rw [this, List.map_id]

theorem countB_eq (c : UInt8) (s sep : ByteArray) (hs : sep.data.toList = [c]) : Lib.countB s sep + 1 = (splitOn' c s.data.toList).length := by
  rw [splitOn'_length]
  unfold Lib.countB
  rw [hs]

/- ## numbers -/
theorem trimS_digits (s : Bytes) : (Lib.trimS s [48, 49, 50, 51, 52, 53, 54, 55, 56, 57] = []) ↔ s.all isDigit = true := by
  have h : (fun c : UInt8 => [48, 49, 50, 51, 52, 53, 54, 55, 56, 57].contains c) = isDigit := by
    funext c
    rw [Bool.eq_iff_iff]
    simp only [List.contains_iff_mem, List.mem_cons, List.not_mem_nil, or_false, isDigit, Bool.and_eq_true, decide_eq_true_eq]
    constructor
    · rintro (h | h | h | h | h | h | h | h | h | h) <;> subst h <;> decide
    · rintro ⟨h1, h2⟩
      rw [UInt8.le_iff_toNat_le] at h1 h2
      have e : ∀ k : Nat, c.toNat = k → c = UInt8.ofNat k := by
        intro k hk
        rw [← hk]
        simp
      have h1' : 48 ≤ c.toNat := h1
      have h2' : c.toNat ≤ 57 := h2
      have : c.toNat = 48 ∨ c.toNat = 49 ∨ c.toNat = 50 ∨ c.toNat = 51 ∨ c.toNat = 52 ∨ c.toNat = 53 ∨ c.toNat = 54 ∨ c.toNat = 55 ∨ c.toNat = 56 ∨ c.toNat = 57 := by omega
      rcases this with h | h | h | h | h | h | h | h | h | h <;> rw [e _ h] <;> decide
  unfold Lib.trimS Lib.trimLeftS Lib.trimRightS
  rw [h]
  have nil_iff : ∀ l : Bytes, l.dropWhile isDigit = [] ↔ l.all isDigit = true := by
    intro l
    induction l with
    | nil => simp
    | cons a l ih => cases ha : isDigit a <;> simp [ha, ih]
  constructor
  · intro hd
    rw [nil_iff] at hd
    by_cases he : (s.reverse.dropWhile isDigit) = []
    · rw [nil_iff] at he
      simpa using he
    · exfalso
      have hh := List.head_dropWhile_not (p := isDigit) (l := s.reverse) he
      have hm : (s.reverse.dropWhile isDigit).head he ∈ (s.reverse.dropWhile isDigit).reverse := by simp
      have := List.all_eq_true.1 hd _ hm
      rw [this] at hh
      cases hh
  · intro ha
    have : s.reverse.dropWhile isDigit = [] := by
      rw [nil_iff]
      simpa using ha
    rw [this]
    rfl

theorem isDigit_toNat {c : UInt8} (h : isDigit c = true) : 48 ≤ c.toNat ∧ c.toNat ≤ 57 := by
  simp only [isDigit, Bool.and_eq_true, decide_eq_true_eq, UInt8.le_iff_toNat_le] at h
  exact h

theorem valOf_lt (s : Bytes) : ∀ (acc k : Nat), s.all isDigit = true → acc < 10 ^ k → valOf acc s < 10 ^ (k + s.length) := by
  induction s with
  | nil =>
    intro acc k _ h
    have e : k + ([] : Bytes).length = k := rfl
    rw [e]
    exact h
  | cons c r ih =>
    intro acc k hs h
    simp only [List.all_cons, Bool.and_eq_true] at hs
    have hc := isDigit_toNat hs.1
    have h' : acc * 10 + (c.toNat - 48) < 10 ^ (k + 1) := by rw [Nat.pow_succ]; omega
    have := ih _ (k + 1) hs.2 h'
    rw [List.length_cons, show k + (r.length + 1) = k + 1 + r.length by omega]
    exact this

theorem parseUintM_val : ∀ (s : Bytes) (acc k : Nat), s.all isDigit = true → acc < 10 ^ k → k + s.length ≤ 18 → Lib.parseUintM 18446744073709551615 acc s = .ok (valOf acc s)
  | [], acc, k, _, _, _ => rfl
  | c :: r, acc, k, hs, h, hk => by
    simp only [List.all_cons, Bool.and_eq_true] at hs
    have hc := isDigit_toNat hs.1
    simp only [List.length_cons] at hk
    have h' : acc * 10 + (c.toNat - 48) < 10 ^ (k + 1) := by rw [Nat.pow_succ]; omega
    have hp : (10 : Nat) ^ k ≤ 10 ^ 17 := Nat.pow_le_pow_right (by omega) (by omega)
    have hp' : (10 : Nat) ^ (k + 1) ≤ 10 ^ 18 := Nat.pow_le_pow_right (by omega) (by omega)
    unfold Lib.parseUintM
    rw [if_pos hc, if_neg (by omega), if_neg (by omega)]
    exact parseUintM_val r _ (k + 1) hs.2 h' (by omega)

theorem unsigned_some {t : Bytes} {u : Nat} (h : unsigned t = some u) : (1 ≤ t.length ∧ t.length ≤ 18 ∧ t.all isDigit = true) ∧ u = valOf 0 t := by
  unfold unsigned at h
  split at h
  · rename_i hc
    exact ⟨hc, (Option.some.inj h).symm⟩
  · cases h

/-- ParseInt at what Go's own look lets by. -/
theorem parseInt_number {s : Bytes} {v : Int} (h : numberP s = some v) : Lib.parseIntB 64 s = .ok v := by
  unfold numberP at h
  split at h
  · cases h
  · rename_i c r
    have key : ∀ t : Bytes, (1 ≤ t.length ∧ t.length ≤ 18 ∧ t.all isDigit = true) → Lib.parseUintB 64 t = .ok (valOf 0 t) ∧ valOf 0 t < 10 ^ 18 := by
      rintro t ⟨h1, h2, h3⟩
      have hv := valOf_lt t 0 0 h3 (by omega)
      have hp : (10 : Nat) ^ (0 + t.length) ≤ 10 ^ 18 := Nat.pow_le_pow_right (by omega) (by omega)
      refine ⟨?_, by omega⟩
      unfold Lib.parseUintB
      rw [if_neg (by rintro rfl; simp at h1)]
      exact parseUintM_val t 0 0 h3 (by omega) (by omega)
    split at h
    · rename_i hc
      subst hc
      simp only [Option.map_eq_some_iff] at h
      obtain ⟨u, hu, rfl⟩ := h
      obtain ⟨hu2, rfl⟩ := unsigned_some hu
      obtain ⟨k1, k2⟩ := key r hu2
      unfold Lib.parseIntB
      simp only
      rw [if_pos (by decide), k1]
      simp only
      rw [if_neg (by intro h; exact h.1 (by decide)), if_neg (by intro h; have := h.2; omega), if_pos (by decide)]
    · rename_i hc
      simp only [Option.map_eq_some_iff] at h
      obtain ⟨u, hu, rfl⟩ := h
      obtain ⟨hu2, rfl⟩ := unsigned_some hu
      obtain ⟨k1, k2⟩ := key (c :: r) hu2
      have hd : isDigit c = true := by
        have := hu2.2.2
        simp only [List.all_cons, Bool.and_eq_true] at this
        exact this.1
      have hb := isDigit_toNat hd
      unfold Lib.parseIntB
      simp only
      rw [if_neg (by omega), k1]
      simp only
      rw [if_neg (by intro h; have := h.2; omega), if_neg (by intro h; omega), if_neg (by omega)]

/- ## registers -/
theorem itoa_reg : ∀ v : Nat, v < 16 → regNames[v]? = some (114 :: Lib.itoa (v : Int)) := by
  intro v hv
  have h0 : ¬ ((v : Int) < 0) := by omega
  unfold Lib.itoa
  rw [if_neg h0, Int.toNat_natCast]
  rcases Nat.lt_or_ge v 10 with h | h
  · rw [Lib.decDigits_one h]
    have : v = 0 ∨ v = 1 ∨ v = 2 ∨ v = 3 ∨ v = 4 ∨ v = 5 ∨ v = 6 ∨ v = 7 ∨ v = 8 ∨ v = 9 := by omega
    rcases this with h | h | h | h | h | h | h | h | h | h <;> subst h <;> rfl
  · rw [Lib.decDigits_two (by omega) (by omega)]
    have : v = 10 ∨ v = 11 ∨ v = 12 ∨ v = 13 ∨ v = 14 ∨ v = 15 := by omega
    rcases this with h | h | h | h | h | h <;> subst h <;> rfl

theorem regNames_num : ∀ v : Nat, v < 16 → (regNames[v]?).map (fun s => numberP s.tail) = some (some (v : Int)) := by decide
theorem regNames_nodup : ∀ i : Nat, i < 16 → ∀ j : Nat, j < 16 → regNames[i]? = regNames[j]? → i = j := by decide

theorem registerP_iff (s : Bytes) (v : Int) : registerP s = some v ↔ ∃ rest, s = 114 :: rest ∧ numberP rest = some v ∧ 0 ≤ v ∧ v < 16 ∧ rest = Lib.itoa v := by
  have hlen : regNames.length = 16 := rfl
  constructor
  · intro h
    unfold registerP at h
    simp only [Option.map_eq_some_iff] at h
    obtain ⟨n, hn, rfl⟩ := h
    rw [List.findIdx?_eq_some_iff_getElem] at hn
    obtain ⟨hlt, he, _⟩ := hn
    rw [hlen] at hlt
    have he := beq_iff_eq.1 he
    have hg : regNames[n]? = some s := by rw [← he]; exact List.getElem?_eq_getElem _
    have hi := itoa_reg n hlt
    have hm := regNames_num n hlt
    rw [hg] at hi hm
    simp only [Option.map_some, Option.some.injEq] at hi hm
    subst hi
    exact ⟨_, rfl, hm, by omega, by omega, rfl⟩
  · rintro ⟨rest, rfl, hn, h0, h16, rfl⟩
    obtain ⟨n, rfl⟩ := Int.eq_ofNat_of_zero_le h0
    have hlt : n < 16 := by omega
    have hi := itoa_reg n hlt
    unfold registerP
    simp only [Option.map_eq_some_iff]
    refine ⟨n, ?_, rfl⟩
    rw [List.findIdx?_eq_some_iff_getElem]
    have hg : regNames[n]'(by rw [hlen]; exact hlt) = 114 :: Lib.itoa (n : Int) := by
      have := List.getElem?_eq_getElem (l := regNames) (i := n) (by rw [hlen]; exact hlt)
      rw [this] at hi
      exact Option.some.inj hi
    refine ⟨by rw [hlen]; exact hlt, by rw [hg]; exact beq_self_eq_true _, fun j hj => ?_⟩
    intro e
    have e := beq_iff_eq.1 e
    have hj16 : j < 16 := by omega
    have := regNames_nodup j hj16 n hlt (by
      rw [hi, List.getElem?_eq_getElem (by rw [hlen]; exact hj16), e])
    omega

end Thole
