/- Plain Lean: how great the numbers of an assembly are. -/
import Derived.Test.YtnlpekhohakkbaaGreatDoorPlainCount
import Derived.Test.YtnlpekhohakkbaaGreatDoorPlainLib
namespace Thole

def Small (v : Int) : Prop := -1000000000000000000 ≤ v ∧ v ≤ 1000000000000000000

theorem unsigned_lt {s : Bytes} {v : Nat} (h : unsigned s = some v) : v < 1000000000000000000 := by
  unfold unsigned at h
  split at h
  · rename_i hs
    cases h
    have := valOf_lt s 0 0 hs.2.2 (by simp)
    rw [Nat.zero_add] at this
    have h2 : (10 : Nat) ^ s.length ≤ 10 ^ 18 := Nat.pow_le_pow_right (by omega) hs.2.1
    have h3 : (10 : Nat) ^ 18 = 1000000000000000000 := by decide
    omega
  · cases h
theorem numberP_small {s : Bytes} {v : Int} (h : numberP s = some v) : Small v := by
  unfold numberP at h
  split at h
  · cases h
  split at h
  · obtain ⟨u, hu, rfl⟩ := Option.map_eq_some_iff.1 h
    have := unsigned_lt hu
    constructor <;> omega
  · obtain ⟨u, hu, rfl⟩ := Option.map_eq_some_iff.1 h
    have := unsigned_lt hu
    constructor <;> omega

theorem fieldP_small {l l' : LineP} {w : UInt8} {s : Bytes} (h : fieldP l w s = some l') (ht : Small l.ins.n) : Small l'.ins.n := by
  unfold fieldP at h
  split at h
  · obtain ⟨v, _, rfl⟩ := Option.map_eq_some_iff.1 h; exact ht
  split at h
  · obtain ⟨v, _, rfl⟩ := Option.map_eq_some_iff.1 h; exact ht
  split at h
  · obtain ⟨v, _, rfl⟩ := Option.map_eq_some_iff.1 h; exact ht
  split at h
  · obtain ⟨v, hv, rfl⟩ := Option.map_eq_some_iff.1 h; exact numberP_small hv
  split at h
  · cases h; exact ht
  · cases h
theorem fieldsP_small : ∀ (has : Bytes) (ws : List Bytes) (l l' : LineP), fieldsP l has ws = some l' → Small l.ins.n → Small l'.ins.n
  | [], _, l, l', h, ht => by unfold fieldsP at h; cases h; exact ht
  | _ :: _, [], l, l', h, ht => by unfold fieldsP at h; cases h; exact ht
  | w :: has, s :: ws, l, l', h, ht => by
    unfold fieldsP at h
    obtain ⟨l1, h1, h2⟩ := Option.bind_eq_some_iff.1 h
    exact fieldsP_small has ws l1 l' h2 (fieldP_small h1 ht)
theorem parseP_small {s : Bytes} {l : LineP} (h : parseP s = some l) : Small l.ins.n := by
  have h0 : Small 0 := by constructor <;> omega
  unfold parseP at h
  simp only at h
  split at h
  · cases h; exact h0
  split at h
  · split at h
    · cases h; exact h0
    · cases h
  unfold parseWords at h
  split at h
  · cases h
  split at h
  · cases h
  rename_i hf
  split at h
  · cases h
  cases h
  exact fieldsP_small _ _ _ _ hf h0

structure SmallOk (a : Asm) : Prop where
  code : ∀ x ∈ a.code, Small x.n
  labels : ∀ x ∈ a.labels, 0 ≤ x.2 ∧ x.2 ≤ 1024
  len : a.code.length ≤ 1024

theorem lineP_small {a b : Asm} {s : Bytes} {n : Int} (h : SmallOk a) (he : lineP a s n = .ok b) : SmallOk b := by
  unfold lineP at he
  split at he
  · cases he
  rename_i l hpl
  split at he
  · split at he
    · cases he
    · cases he
      refine ⟨h.code, fun x hx => ?_, h.len⟩
      rcases List.mem_append.1 hx with hx | hx
      · exact h.labels x hx
      · simp at hx
        subst hx
        have := h.len
        constructor <;> simp <;> omega
  split at he
  · cases he
    exact h
  split at he
  · cases he
  cases he
  refine ⟨fun x hx => ?_, h.labels, by simp; omega⟩
  rcases List.mem_append.1 hx with hx | hx
  · exact h.code x hx
  · simp at hx
    subst hx
    exact parseP_small hpl
theorem linesP_small : ∀ (l : List Bytes) (a b : Asm) (n : Int), SmallOk a → linesP a n l = .ok b → SmallOk b
  | [], a, b, n, h, he => by rw [linesP] at he; cases he; exact h
  | s :: l, a, b, n, h, he => by
    rw [linesP] at he
    split at he
    · cases he
    · rename_i c hc
      exact linesP_small l c b (n + 1) (lineP_small h hc) he
theorem place_mem {ls : List (Bytes × Int)} {name : Bytes} {v : Int} (h : place ls name = some v) : ∃ x ∈ ls, x.2 = v := by
  unfold place at h
  obtain ⟨x, hx, rfl⟩ := Option.map_eq_some_iff.1 h
  exact ⟨x, List.mem_of_find?_eq_some hx, rfl⟩
theorem goes_small (ls : List (Bytes × Int)) (hl : ∀ x ∈ ls, 0 ≤ x.2 ∧ x.2 ≤ 1024) : ∀ (gone : List (Int × Int × Bytes)) (code code' : List Ins), (∀ x ∈ code, Small x.n) → goes ls code gone = .ok code' → ∀ x ∈ code', Small x.n
  | [], code, code', h, he => by rw [goes] at he; cases he; exact h
  | (at_, line, name) :: gone, code, code', h, he => by
    rw [goes] at he
    split at he
    · cases he
    · rename_i v hv
      refine goes_small ls hl gone _ code' (fun x hx => ?_) he
      rcases List.mem_or_eq_of_mem_set hx with hx | rfl
      · exact h x hx
      · obtain ⟨y, hy, e⟩ := place_mem hv
        have := hl y hy
        constructor <;> simp <;> omega
theorem assemble_small {texts : List Bytes} {c : List Ins} {l : List (Bytes × Int)} (h : assemble texts = .ok (c, l)) : (∀ x ∈ c, Small x.n) ∧ (∀ x ∈ l, 0 ≤ x.2 ∧ x.2 ≤ 1024) ∧ c.length ≤ 1024 := by
  unfold assemble at h
  split at h
  · cases h
  rename_i a ha
  split at h
  · cases h
  rename_i code hcode
  cases h
  have := linesP_small _ _ _ _ ⟨fun x hx => absurd hx (by simp), fun x hx => absurd hx (by simp), by simp⟩ ha
  have hlen := goes_len _ _ _ _ hcode
  exact ⟨goes_small _ this.labels _ _ _ this.code hcode, this.labels, by have := this.len; omega⟩
end Thole
