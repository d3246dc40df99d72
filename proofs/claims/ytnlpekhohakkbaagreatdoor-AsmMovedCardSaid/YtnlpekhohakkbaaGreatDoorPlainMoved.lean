/- Plain Lean: instructions ahead of texts move all labels by as many, and what goes to them. -/
import Derived.Test.YtnlpekhohakkbaaGreatDoorPlainAsm
namespace Thole

theorem fieldP_op {l l' : LineP} {w : UInt8} {s : Bytes} (h : fieldP l w s = some l') : l'.ins.op = l.ins.op ∧ l'.label = l.label := by
  unfold fieldP at h
  repeat' split at h
  all_goals first
    | (simp only [Option.map_eq_some_iff] at h; obtain ⟨v, _, rfl⟩ := h; exact ⟨rfl, rfl⟩)
    | (injection h with h; subst h; exact ⟨rfl, rfl⟩)
    | cases h

theorem fieldP_target {l l' : LineP} {w : UInt8} {s : Bytes} (h : fieldP l w s = some l') (hw : w = 65 ∨ w = 66 ∨ w = 67 ∨ w = 78) : l'.target = l.target := by
  unfold fieldP at h
  repeat' split at h
  all_goals first
    | (simp only [Option.map_eq_some_iff] at h; obtain ⟨v, _, rfl⟩ := h; rfl)
    | (simp_all)

theorem fieldsP_op : ∀ (has : Bytes) (ws : List Bytes) (l l' : LineP), fieldsP l has ws = some l' → l'.ins.op = l.ins.op ∧ l'.label = l.label
  | [], _, l, l', h => by simp [fieldsP] at h; subst h; exact ⟨rfl, rfl⟩
  | _ :: _, [], l, l', h => by simp [fieldsP] at h; subst h; exact ⟨rfl, rfl⟩
  | w :: has, s :: ws, l, l', h => by
    simp only [fieldsP, Option.bind_eq_some_iff] at h
    obtain ⟨m, hm, h⟩ := h
    have h1 := fieldP_op hm
    have h2 := fieldsP_op has ws m l' h
    exact ⟨h2.1.trans h1.1, h2.2.trans h1.2⟩

/-- no name among what it has -/
def noT (has : Bytes) : Bool := has.all fun w => decide (w = 65) || decide (w = 66) || decide (w = 67) || decide (w = 78)

theorem fieldsP_noT : ∀ (has : Bytes) (ws : List Bytes) (l l' : LineP), noT has = true → fieldsP l has ws = some l' → l'.target = l.target
  | [], _, l, l', _, h => by simp [fieldsP] at h; subst h; rfl
  | _ :: _, [], l, l', _, h => by simp [fieldsP] at h; subst h; rfl
  | w :: has, s :: ws, l, l', hn, h => by
    simp only [fieldsP, Option.bind_eq_some_iff] at h
    obtain ⟨m, hm, h⟩ := h
    simp only [noT, List.all_cons, Bool.and_eq_true, Bool.or_eq_true, decide_eq_true_eq] at hn
    have h1 := fieldP_target hm (by rcases hn.1 with ((h | h) | h) | h <;> simp [h])
    have h2 := fieldsP_noT has ws m l' hn.2 h
    exact h2.trans h1

theorem fieldsP_T : ∀ (pre : Bytes) (ws : List Bytes) (l l' : LineP), noT pre = true → ws.length = (pre ++ [84]).length → fieldsP l (pre ++ [84]) ws = some l' → l'.target ≠ []
  | [], [s], l, l', _, _, h => by
    simp only [List.nil_append, fieldsP, Option.bind_eq_some_iff] at h
    obtain ⟨m, hm, h⟩ := h
    simp only [Option.some.injEq] at h
    subst h
    have : fieldP l 84 s = if nameB s then some { l with target := s } else none := by
      unfold fieldP
      rw [if_neg (by decide), if_neg (by decide), if_neg (by decide), if_neg (by decide)]
    rw [this] at hm
    split at hm
    · rename_i hb
      injection hm with hm
      subst hm
      intro e
      simp only at e
      subst e
      revert hb
      decide
    · cases hm
  | [], [], _, _, _, hl, _ => by simp at hl
  | [], _ :: _ :: _, _, _, _, hl, _ => by simp at hl
  | w :: pre, [], _, _, _, hl, _ => by simp at hl
  | w :: pre, s :: ws, l, l', hn, hl, h => by
    simp only [List.cons_append, fieldsP, Option.bind_eq_some_iff] at h
    obtain ⟨m, _, h⟩ := h
    simp only [noT, List.all_cons, Bool.and_eq_true] at hn
    exact fieldsP_T pre ws m l' hn.2 (by simpa using hl) h

theorem shapeOf_some : ∀ (l : List (Bytes × Bytes)) (w : Bytes) (n k op : Nat) (has : Bytes), shapeOf w n k l = some (op, has) → ∃ j, op = k + j ∧ (l[j]?).map (·.2) = some has ∧ has.length = n
  | [], _, _, _, _, _, h => by simp [shapeOf] at h
  | (a, b) :: l, w, n, k, op, has, h => by
    simp only [shapeOf] at h
    split at h
    · rename_i hc
      simp only [Option.some.injEq, Prod.mk.injEq] at h
      obtain ⟨rfl, rfl⟩ := h
      exact ⟨0, rfl, rfl, hc.2⟩
    · obtain ⟨j, h1, h2, h3⟩ := shapeOf_some l w n (k + 1) op has h
      exact ⟨j + 1, by omega, by simpa using h2, h3⟩

theorem words_T : ∀ j, j < 22 → ∀ has, (words[j]?).map (·.2) = some has → (if 7 ≤ j ∧ j ≤ 11 then has = has.dropLast ++ [84] ∧ noT has.dropLast = true else noT has = true) := by
  have h : (List.range 22).all (fun j => match words[j]? with | none => false | some x => if 7 ≤ j ∧ j ≤ 11 then decide (x.2 = x.2.dropLast ++ [84]) && noT x.2.dropLast else noT x.2) = true := by decide
  intro j hj has hh
  have hj' := List.all_eq_true.1 h j (List.mem_range.2 hj)
  cases hw : words[j]? with
  | none => rw [hw] at hh; cases hh
  | some x =>
    rw [hw] at hh
    simp only [Option.map_some, Option.some.injEq] at hh
    subst hh
    rw [hw] at hj'
    simp only at hj'
    split
    · rename_i hc
      rw [if_pos hc] at hj'
      simpa using hj'
    · rename_i hc
      rw [if_neg hc] at hj'
      exact hj'

theorem parseWords_target {ws : List Bytes} {l : LineP} (h : parseWords ws = some l) : l.label = [] ∧ 1 ≤ l.ins.op ∧ l.ins.op ≤ 22 ∧ (l.target ≠ [] ↔ 8 ≤ l.ins.op ∧ l.ins.op ≤ 12) := by
  unfold parseWords at h
  split at h
  · cases h
  · rename_i op has hs
    obtain ⟨j, hj, hh, hlen⟩ := shapeOf_some _ _ _ _ _ _ hs
    have hj22 : j < 22 := by
      rcases Nat.lt_or_ge j 22 with h' | h'
      · exact h'
      · rw [List.getElem?_eq_none (by simpa [words] using h')] at hh
        cases hh
    have hw := words_T j hj22 has hh
    split at h
    · cases h
    · rename_i l' hf
      split at h
      · cases h
      · injection h with h
        subst h
        obtain ⟨ho, hl⟩ := fieldsP_op _ _ _ _ hf
        simp only [LineP.none] at ho hl hf
        refine ⟨hl, by rw [ho]; omega, by rw [ho]; omega, ?_⟩
        rw [ho]
        split at hw
        · rename_i hc
          obtain ⟨e, hn⟩ := hw
          rw [e] at hf
          have := fieldsP_T has.dropLast ws.tail _ _ hn (by rw [← e, hlen, List.length_tail]) hf
          exact ⟨fun _ => by omega, fun _ => this⟩
        · rename_i hc
          have := fieldsP_noT has ws.tail _ _ hw hf
          simp only at this
          exact ⟨fun hne => absurd this hne, fun h12 => by omega⟩

theorem parseP_target {s : Bytes} {l : LineP} (h : parseP s = some l) : (l.label ≠ [] ∧ l.target = [] ∧ l.ins.op = 0) ∨ (l.label = [] ∧ (l.target ≠ [] ↔ 8 ≤ l.ins.op ∧ l.ins.op ≤ 12)) := by
  unfold parseP at h
  simp only at h
  split at h
  · injection h with h
    subst h
    exact .inr ⟨rfl, by decide⟩
  · split at h
    · split at h
      · rename_i hb
        injection h with h
        subst h
        refine .inl ⟨?_, rfl, rfl⟩
        intro e
        simp only at e
        rw [e] at hb
        revert hb
        decide
      · cases h
    · have := parseWords_target h
      exact .inr ⟨this.1, this.2.2.2⟩

/- ## shifting -/
def shL (n : Int) (l : List (Bytes × Int)) : List (Bytes × Int) := l.map fun x => (x.1, x.2 + n)
def shG (n k : Int) (l : List (Int × Int × Bytes)) : List (Int × Int × Bytes) := l.map fun x => (x.1 + n, x.2.1 + k, x.2.2)
def shA (pre : List Ins) (k : Int) (a : Asm) : Asm := { code := pre ++ a.code, labels := shL pre.length a.labels, gone := shG pre.length k a.gone }

theorem place_sh (n : Int) (name : Bytes) : ∀ l, place (shL n l) name = (place l name).map (· + n)
  | [] => rfl
  | (a, v) :: l => by
    have ih := place_sh n name l
    unfold place shL at ih ⊢
    rw [List.map_cons, List.find?_cons, List.find?_cons]
    cases (a == name)
    · exact ih
    · rfl

theorem lineP_sh (pre : List Ins) (k : Int) (a : Asm) (s : Bytes) (i : Int) {b : Asm} (h : lineP a s i = .ok b) (hb : b.code.length + pre.length ≤ 1024) :
    lineP (shA pre k a) s (i + k) = .ok (shA pre k b) := by
  unfold lineP at h ⊢
  split at h
  · cases h
  · rename_i l hl
    by_cases hlab : l.label ≠ []
    · rw [if_pos hlab] at h ⊢
      split at h
      · cases h
      · rename_i hp
        injection h with h
        subst h
        have : place (shA pre k a).labels l.label = none := by
          show place (shL _ _) _ = none
          rw [place_sh, hp]
          rfl
        simp only [this]
        congr 1
        simp only [shA, shL, List.length_append, List.map_append, List.map_cons, List.map_nil]
        congr 3
        congr 1
        push_cast
        omega
    · rw [if_neg hlab] at h ⊢
      split at h
      · rename_i h0
        injection h with h
        subst h
        rw [if_pos h0]
      · rename_i h0
        rw [if_neg h0]
        split at h
        · cases h
        · rename_i hlen
          injection h with h
          subst h
          simp only [List.length_append, List.length_cons, List.length_nil] at hb
          have hlen' : ¬ 1024 ≤ (shA pre k a).code.length := by
            simp only [shA, List.length_append]
            omega
          rw [if_neg hlen']
          congr 1
          simp only [shA, List.append_assoc, List.length_append, Asm.mk.injEq, true_and]
          split
          · simp only [shG, List.map_append, List.map_cons, List.map_nil, List.append_cancel_left_eq, List.cons.injEq, Prod.mk.injEq, and_true]
            push_cast
            omega
          · rfl

theorem lineP_grows {a b : Asm} {s : Bytes} {i : Int} (h : lineP a s i = .ok b) : a.code.length ≤ b.code.length := by
  unfold lineP at h
  repeat' split at h
  all_goals first
    | (cases h; done)
    | (cases h; simp)

theorem linesP_grows : ∀ (l : List Bytes) (a b : Asm) (i : Int), linesP a i l = .ok b → a.code.length ≤ b.code.length
  | [], a, b, i, h => by simp [linesP] at h; subst h; exact Nat.le_refl _
  | s :: l, a, b, i, h => by
    simp only [linesP] at h
    split at h
    · cases h
    · rename_i c hc
      exact Nat.le_trans (lineP_grows hc) (linesP_grows l c b _ h)

theorem linesP_sh (pre : List Ins) (k : Int) : ∀ (l : List Bytes) (a b : Asm) (i : Int), linesP a i l = .ok b → b.code.length + pre.length ≤ 1024 →
    linesP (shA pre k a) (i + k) l = .ok (shA pre k b)
  | [], a, b, i, h, _ => by simp [linesP] at h ⊢; subst h; rfl
  | s :: l, a, b, i, h, hb => by
    simp only [linesP] at h ⊢
    split at h
    · cases h
    · rename_i c hc
      have hg := linesP_grows l c b _ h
      rw [lineP_sh pre k a s i hc (by omega)]
      simp only
      have := linesP_sh pre k l c b (i + 1) h hb
      rw [show i + k + 1 = i + 1 + k by omega]
      exact this

/- ## what goes to names -/
/-- every instruction that goes to a name is among them, and they are such -/
def GoneOk (a : Asm) : Prop :=
  (∀ x ∈ a.gone, 0 ≤ x.1 ∧ x.1 < a.code.length ∧ 8 ≤ (a.code.getD x.1.toNat default).op ∧ (a.code.getD x.1.toNat default).op ≤ 12) ∧
  ∀ i, i < a.code.length → 8 ≤ (a.code.getD i default).op → (a.code.getD i default).op ≤ 12 → ∃ x ∈ a.gone, x.1 = (i : Int)

theorem lineP_gone {a b : Asm} {s : Bytes} {i : Int} (h : lineP a s i = .ok b) (ha : GoneOk a) : GoneOk b := by
  unfold lineP at h
  split at h
  · cases h
  · rename_i l hl
    have ht := parseP_target hl
    by_cases hlab : l.label ≠ []
    · rw [if_pos hlab] at h
      split at h
      · cases h
      · injection h with h
        subst h
        exact ha
    · rw [if_neg hlab] at h
      have ht : l.target ≠ [] ↔ 8 ≤ l.ins.op ∧ l.ins.op ≤ 12 := by
        rcases ht with ht | ht
        · exact absurd ht.1 hlab
        · exact ht.2
      split at h
      · injection h with h
        subst h
        exact ha
      · split at h
        · cases h
        · injection h with h
          subst h
          have old : ∀ k, k < a.code.length → (a.code ++ [l.ins]).getD k default = a.code.getD k default := by
            intro k hk
            simp only [List.getD_eq_getElem?_getD]
            rw [List.getElem?_append_left hk]
          have new : (a.code ++ [l.ins]).getD a.code.length default = l.ins := by
            simp [List.getD_eq_getElem?_getD]
          refine ⟨fun x hx => ?_, fun k hk h8 h12 => ?_⟩
          · simp only [List.length_append, List.length_cons, List.length_nil]
            have hx' : x ∈ a.gone ∨ (x = ((a.code.length : Int), i, l.target) ∧ l.target ≠ []) := by
              simp only at hx
              split at hx
              · rename_i htt
                rcases List.mem_append.1 hx with hx | hx
                · exact .inl hx
                · exact .inr ⟨by simpa using hx, htt⟩
              · exact .inl hx
            rcases hx' with hx | ⟨rfl, htt⟩
            · obtain ⟨h1, h2, h3, h4⟩ := ha.1 x hx
              rw [old _ (by omega)]
              exact ⟨h1, by push_cast; omega, h3, h4⟩
            · have := ht.1 htt
              simp only [Int.toNat_natCast]
              rw [new]
              exact ⟨by omega, by push_cast; omega, this.1, this.2⟩
          · simp only [List.length_append, List.length_cons, List.length_nil] at hk h8 h12
            simp only
            rcases Nat.lt_or_ge k a.code.length with hlt | hge
            · rw [old _ hlt] at h8 h12
              obtain ⟨x, hx, e⟩ := ha.2 k hlt h8 h12
              refine ⟨x, ?_, e⟩
              split
              · exact List.mem_append_left _ hx
              · exact hx
            · obtain rfl : k = a.code.length := by omega
              rw [new] at h8 h12
              have := ht.2 ⟨h8, h12⟩
              rw [if_pos this]
              exact ⟨_, List.mem_append_right _ (List.mem_singleton.2 rfl), rfl⟩

theorem linesP_gone : ∀ (l : List Bytes) (a b : Asm) (i : Int), linesP a i l = .ok b → GoneOk a → GoneOk b
  | [], a, b, i, h, ha => by simp [linesP] at h; subst h; exact ha
  | s :: l, a, b, i, h, ha => by
    simp only [linesP] at h
    split at h
    · cases h
    · rename_i c hc
      exact linesP_gone l c b _ h (lineP_gone hc ha)

def up1 (n : Int) (x : Ins) : Ins := { x with n := x.n + n }
def RelS (n : Int) (S : Int → Prop) (x y : List Ins) : Prop :=
  x.length = y.length ∧ ∀ i, i < y.length → (S i → x.getD i default = up1 n (y.getD i default)) ∧ (¬ S i → x.getD i default = y.getD i default)

theorem getD_set_eq {x : List Ins} {i : Nat} (v : Ins) (h : i < x.length) : (x.set i v).getD i default = v := by
  simp [List.getD_eq_getElem?_getD, h]
theorem getD_set_ne {x : List Ins} {i j : Nat} (v : Ins) (h : i ≠ j) : (x.set i v).getD j default = x.getD j default := by
  simp [List.getD_eq_getElem?_getD, h]

theorem goes_len (labels : List (Bytes × Int)) : ∀ (g : List (Int × Int × Bytes)) (code c : List Ins), goes labels code g = .ok c → c.length = code.length
  | [], code, c, h => by simp [goes] at h; subst h; rfl
  | (at_, line, name) :: g, code, c, h => by
    simp only [goes] at h
    split at h
    · cases h
    · have := goes_len labels g _ c h
      simpa using this

theorem goes_op (labels : List (Bytes × Int)) : ∀ (g : List (Int × Int × Bytes)) (code c : List Ins), goes labels code g = .ok c → ∀ i, (c.getD i default).op = (code.getD i default).op
  | [], code, c, h => by simp [goes] at h; subst h; exact fun _ => rfl
  | (at_, line, name) :: g, code, c, h => by
    simp only [goes] at h
    split at h
    · cases h
    · rename_i v _
      intro i
      rw [goes_op labels g _ c h i]
      by_cases hi : at_.toNat = i
      · subst hi
        rcases Nat.lt_or_ge at_.toNat code.length with hlt | hge
        · rw [getD_set_eq _ hlt]
        · rw [List.set_eq_of_length_le hge]
      · rw [getD_set_ne _ hi]

theorem goes_sh (pre : List Ins) (labels : List (Bytes × Int)) (k : Int) : ∀ (g : List (Int × Int × Bytes)) (code c x : List Ins) (S : Int → Prop),
    (∀ y ∈ g, 0 ≤ y.1 ∧ y.1 < code.length) → RelS pre.length S x code → goes labels code g = .ok c →
    ∃ x', goes (shL pre.length labels) (pre ++ x) (shG pre.length k g) = .ok (pre ++ x') ∧ RelS pre.length (fun i => S i ∨ ∃ y ∈ g, y.1 = i) x' c
  | [], code, c, x, S, _, hr, h => by
    simp [goes] at h
    subst h
    exact ⟨x, rfl, by simpa using hr⟩
  | (at_, line, name) :: g, code, c, x, S, hg, hr, h => by
    simp only [goes] at h
    split at h
    · cases h
    · rename_i v hv
      obtain ⟨h0, h1⟩ := hg (at_, line, name) (by simp)
      simp only at h0 h1
      have hx : x.length = code.length := hr.1
      have hat : (at_ + (pre.length : Int)).toNat = pre.length + at_.toNat := by omega
      have hset : (pre ++ x).set (at_ + (pre.length : Int)).toNat { (pre ++ x).getD (at_ + (pre.length : Int)).toNat default with n := v + pre.length } = pre ++ x.set at_.toNat { x.getD at_.toNat default with n := v + pre.length } := by
        rw [hat]
        simp only [List.getD_eq_getElem?_getD]
        rw [List.getElem?_append_right (by omega), List.set_append_right _ _ (by omega)]
        simp only [Nat.add_sub_cancel_left]
      have hrel : RelS pre.length (fun i => S i ∨ i = at_) (x.set at_.toNat { x.getD at_.toNat default with n := v + pre.length }) (code.set at_.toNat { code.getD at_.toNat default with n := v }) := by
        refine ⟨by simpa using hx, fun i hi => ?_⟩
        simp only [List.length_set] at hi
        by_cases he : at_.toNat = i
        · subst he
          rw [getD_set_eq _ (by omega), getD_set_eq _ hi]
          obtain ⟨hp, hq⟩ := hr.2 at_.toNat hi
          refine ⟨fun _ => ?_, fun hn => absurd (.inr (by omega)) hn⟩
          by_cases hs : S (at_.toNat : Int)
          · rw [hp hs]; rfl
          · rw [hq hs]; rfl
        · rw [getD_set_ne _ he, getD_set_ne _ he]
          obtain ⟨hp, hq⟩ := hr.2 i hi
          refine ⟨fun hs => ?_, fun hn => hq fun hs => hn (.inl hs)⟩
          rcases hs with hs | hs
          · exact hp hs
          · omega
      obtain ⟨x', hx1, hx2⟩ := goes_sh pre labels k g _ c _ (fun i => S i ∨ i = at_) (fun y hy => by
        have := hg y (by simp [hy])
        simpa using this) hrel h
      refine ⟨x', ?_, ?_⟩
      · simp only [shG, List.map_cons, goes]
        rw [place_sh, hv]
        simp only [Option.map_some]
        rw [hset]
        exact hx1
      · refine ⟨hx2.1, fun i hi => ?_⟩
        obtain ⟨hp, hq⟩ := hx2.2 i hi
        refine ⟨fun hs => hp ?_, fun hn => hq fun hs => hn ?_⟩
        · rcases hs with hs | ⟨y, hy, e⟩
          · exact .inl (.inl hs)
          · rcases List.mem_cons.1 hy with rfl | hy
            · exact .inl (.inr e.symm)
            · exact .inr ⟨y, hy, e⟩
        · rcases hs with (hs | hs) | ⟨y, hy, e⟩
          · exact .inl hs
          · exact .inr ⟨(at_, line, name), by simp, hs.symm⟩
          · exact .inr ⟨y, by simp [hy], e⟩

/- ## the law's plain part -/
def nowIns : Ins := { op := 18, a := 1, b := 0, c := 0, n := 0 }
def nowLine : Bytes := [110, 111, 119, 32, 114, 49]

theorem parse_now : parseP nowLine = some { label := [], ins := nowIns, target := [] } := by decide
theorem parse_empty : parseP [] = some LineP.none := by decide

theorem linesP_now : ∀ (n : Nat) (l : List Bytes) (pre : List Ins) (i : Int), pre.length + n ≤ 1024 →
    linesP { code := pre, labels := [], gone := [] } i (List.replicate n nowLine ++ l) = linesP { code := pre ++ List.replicate n nowIns, labels := [], gone := [] } (i + n) l
  | 0, l, pre, i, _ => by simp
  | n + 1, l, pre, i, h => by
    have e : lineP { code := pre, labels := [], gone := [] } nowLine i = .ok { code := pre ++ [nowIns], labels := [], gone := [] } := by
      unfold lineP
      rw [parse_now]
      simp only [ne_eq, not_true_eq_false, ↓reduceIte]
      rw [if_neg (by decide), if_neg (by omega)]
    rw [List.replicate_succ, List.cons_append, linesP, e]
    simp only
    rw [linesP_now n l (pre ++ [nowIns]) (i + 1) (by simp; omega)]
    simp only [List.append_assoc, List.singleton_append]
    rw [show i + 1 + (n : Int) = i + ((n + 1 : Nat) : Int) by push_cast; omega, ← List.replicate_succ]

/-- What stands at a place behind n instructions that go nowhere: as it stood, but that what goes to a place goes n further. -/
theorem assemble_moved (texts : List Bytes) (n : Nat) (front : Bytes) (hf : splitOn' 10 front = List.replicate n nowLine ++ [[]]) (c : List Ins) (l : List (Bytes × Int))
    (h : assemble texts = .ok (c, l)) (hc : c.length + n ≤ 1024) :
    ∃ d, assemble (front :: texts) = .ok (d, shL n l) ∧ d.length = c.length + n ∧
      ∀ i, i < c.length → d.getD (n + i) default = if 8 ≤ (c.getD i default).op ∧ (c.getD i default).op ≤ 12 then up1 n (c.getD i default) else c.getD i default := by
  unfold assemble at h
  split at h
  · cases h
  · rename_i a ha
    split at h
    · cases h
    · rename_i code hcode
      injection h with h
      simp only [Prod.mk.injEq] at h
      obtain ⟨rfl, rfl⟩ := h
      have hlen := goes_len _ _ _ _ hcode
      have hgo : GoneOk a := linesP_gone _ _ _ _ ha ⟨fun x hx => absurd hx (by simp), fun i hi => absurd hi (by simp)⟩
      have hsh := linesP_sh (List.replicate n nowIns) (n + 1) (allLines texts) _ _ _ ha (by rw [← hlen]; simpa using hc)
      have hlines : allLines (front :: texts) = List.replicate n nowLine ++ ([] :: allLines texts) := by
        simp [allLines, hf]
      have hstart : linesP { code := [], labels := [], gone := [] } 0 (allLines (front :: texts)) = .ok (shA (List.replicate n nowIns) (n + 1) a) := by
        rw [hlines, linesP_now n _ [] 0 (by simp; omega), linesP]
        have e : lineP { code := [] ++ List.replicate n nowIns, labels := [], gone := [] } [] (0 + (n : Int)) = .ok { code := List.replicate n nowIns, labels := [], gone := [] } := by
          unfold lineP
          rw [parse_empty]
          simp [LineP.none]
        rw [e]
        simp only
        have h0 : shA (List.replicate n nowIns) ((n : Int) + 1) { code := [], labels := [], gone := [] } = { code := List.replicate n nowIns, labels := [], gone := [] } := by
          simp [shA, shL, shG]
        rw [h0] at hsh
        rw [show (0 : Int) + n + 1 = 0 + (n + 1) by omega]
        exact hsh
      obtain ⟨x', hx1, hx2⟩ := goes_sh (List.replicate n nowIns) a.labels (n + 1) a.gone a.code code a.code (fun _ => False) (fun y hy => ⟨(hgo.1 y hy).1, (hgo.1 y hy).2.1⟩)
        ⟨rfl, fun i _ => ⟨fun h => h.elim, fun _ => rfl⟩⟩ hcode
      refine ⟨List.replicate n nowIns ++ x', ?_, ?_, fun i hi => ?_⟩
      · unfold assemble
        rw [hstart]
        simp only [shA]
        simp only [List.length_replicate] at hx1 ⊢
        rw [hx1]
      · simp only [List.length_append, List.length_replicate]
        rw [hx2.1]
        omega
      · have e : (List.replicate n nowIns ++ x').getD (n + i) default = x'.getD i default := by
          simp only [List.getD_eq_getElem?_getD]
          rw [List.getElem?_append_right (by simp)]
          simp
        rw [e]
        obtain ⟨hp, hq⟩ := hx2.2 i hi
        simp only [List.length_replicate] at hp
        have hop := goes_op _ _ _ _ hcode i
        split
        · rename_i h8
          rw [hop] at h8
          obtain ⟨y, hy, e⟩ := hgo.2 i (by omega) h8.1 h8.2
          exact hp (.inr ⟨y, hy, e⟩)
        · rename_i h8
          rw [hop] at h8
          apply hq
          rintro (h | ⟨y, hy, e⟩)
          · exact h
          · obtain ⟨_, _, h3, h4⟩ := hgo.1 y hy
            rw [e, Int.toNat_natCast] at h3 h4
            exact h8 ⟨h3, h4⟩

end Thole
