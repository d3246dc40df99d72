/- The walk of asm.Assemble: what it leans on. -/
import Derived.Test.YtnlpekhohakkbaaGreatDoorAsm4
import Derived.Laws.OwnMore
namespace Thole
open Go Go.RowKit

theorem flat_len {α : Type} {f : α → List Value} {k : Nat} (hf : ∀ x, (f x).length = k) : ∀ l : List α, (l.flatMap f).length = l.length * k
  | [] => by simp
  | x :: l => by simp [hf, flat_len hf l, Nat.succ_mul]; omega
theorem flat_get {α : Type} {f : α → List Value} {k : Nat} (hf : ∀ x, (f x).length = k) : ∀ (l : List α) (i : Nat) (hi : i < l.length) (d : Nat), d < k → (l.flatMap f)[i * k + d]? = (f (l[i]'hi))[d]?
  | x :: l, 0, _, d, hd => by
    rw [List.flatMap_cons, Nat.zero_mul, Nat.zero_add, List.getElem?_append_left (by rw [hf]; exact hd)]
    rfl
  | x :: l, i + 1, hi, d, hd => by
    rw [List.flatMap_cons, List.getElem?_append_right (by rw [hf, Nat.succ_mul]; omega), hf, show (i + 1) * k + d - k = i * k + d by rw [Nat.succ_mul]; omega]
    exact flat_get hf l i (by simpa using hi) d hd
theorem flat_set {α : Type} {f : α → List Value} {k : Nat} (hf : ∀ x, (f x).length = k) (u : Value) (y : α) (d : Nat) (hd : d < k) : ∀ (l : List α) (i : Nat) (hi : i < l.length), f y = (f (l[i]'hi)).set d u →
    (l.flatMap f).set (i * k + d) u = (l.set i y).flatMap f
  | x :: l, 0, _, hy => by
    rw [List.flatMap_cons, Nat.zero_mul, Nat.zero_add, List.set_append_left _ _ (by rw [hf]; exact hd), List.set_cons_zero, List.flatMap_cons, hy]
    rfl
  | x :: l, i + 1, hi, hy => by
    rw [List.flatMap_cons, List.set_append_right _ _ (by rw [hf, Nat.succ_mul]; omega), hf, show (i + 1) * k + d - k = i * k + d by rw [Nat.succ_mul]; omega, flat_set hf u y d hd l i (by simpa using hi) hy, List.set_cons_succ, List.flatMap_cons]

/-- p is where a slice of these strings lies -/
def StrsAt (w : World) (p : Option Addr) (texts : List Bytes) : Prop :=
  ∀ i (h : i < texts.length), ∃ tb o, p = some ⟨tb, o, none⟩ ∧ tb < w.heap.size ∧ w.cell? ⟨tb, o + i, none⟩ = some (.string ⟨(texts[i]'h).toArray⟩)
theorem StrsAt.below {w w' : World} {p : Option Addr} {texts : List Bytes} (h : StrsAt w p texts) (hb : Below w.heap.size w w') : StrsAt w' p texts := fun i hi => by
  obtain ⟨tb, o, e, hl, hc⟩ := h i hi
  exact ⟨tb, o, e, Nat.lt_of_lt_of_le hl hb.size, (World.cell?_of_block (hb.block tb hl)).trans hc⟩

theorem allLines_drop {texts : List Bytes} {i : Nat} (h : i < texts.length) : allLines (texts.drop i) = splitOn' 10 (texts[i]'h) ++ allLines (texts.drop (i + 1)) := by
  unfold allLines
  rw [List.drop_eq_getElem_cons h, List.flatMap_cons]

theorem linesP_ok {a b : Asm} {n : Int} {s : Bytes} {l : List Bytes} (h : lineP a s n = .ok b) : linesP a n (s :: l) = linesP b (n + 1) l := by
  rw [linesP, h]
theorem linesP_error {a : Asm} {n : Int} {s : Bytes} {l : List Bytes} {e : Int} (h : lineP a s n = .error e) : linesP a n (s :: l) = .error (e, n) := by
  rw [linesP, h]
end Thole
namespace Go.Proofs.YtnlpekhohakkbaaGreatDoor
open Go.RowKit Thole

/-- so many lines have been taken, and these are left -/
def LinesAt (w0 : World) (texts : List Bytes) (g mb nn : Nat) (rest : List Bytes) (w : World) : Prop :=
  ∃ a cv lv gv, AsmAt w0.heap.size w g a a.labels cv lv gv mb ∧ AsmOk a nn ∧ Below w0.heap.size w0 w ∧ linesP ⟨[], [], []⟩ 0 (allLines texts) = linesP a nn rest ∧ nn + rest.length = (allLines texts).length

theorem LinesAt.below {w0 w w' : World} {texts : List Bytes} {g mb nn : Nat} {rest : List Bytes} (h : LinesAt w0 texts g mb nn rest w) (hb : Below w.heap.size w w') : LinesAt w0 texts g mb nn rest w' := by
  obtain ⟨a, cv, lv, gv, h1, h2, h3, h4, h5⟩ := h
  exact ⟨a, cv, lv, gv, h1.below hb, h2, h3.trans (hb.mono h3.size), h4, h5⟩

/-- what asm.Assemble hands back -/
def AsmRes (texts : List Bytes) (w : World) (e : Ending) (w' : World) : Prop :=
  Below w.heap.size w w' ∧ match assemble texts with
  | .error (c, at_) => ∃ b, e = .returned (.tuple #[.slice none 0 0, .slice none 0 0, .iface 104 (.pointer (some ⟨b, 0, none⟩))]) ∧ Blk w' b 106 #[.int .i64 at_, codeV c] ∧ w.heap.size ≤ b
  | .ok (code, labels) => ∃ cv lv, e = .returned (.tuple #[cv, lv, .nilIface]) ∧ w'.ownsRow w.heap.size 34 5 cv code.length (code.flatMap insVals) ∧ w'.ownsRow w.heap.size 32 2 lv labels.length (labels.flatMap labVals)

theorem LinesAt.start (w : World) (texts : List Bytes) :
    LinesAt w texts (w.heap.size + 1) w.heap.size 0 (allLines texts) ((w.alloc (.map #[] 0)).alloc (.cells #[.slice none 0 0, .slice none 0 0, .map (some w.heap.size), .slice none 0 0] 101)) := by
  have hb := Blk.new (w.alloc (.map #[] 0)) 101 #[.slice none 0 0, .slice none 0 0, .map (some w.heap.size), .slice none 0 0]
  have hm := PlacesAt.made w
  have e : (w.alloc (.map #[] 0)).heap.size = w.heap.size + 1 := by simp
  rw [e] at hb
  refine ⟨⟨[], [], []⟩, _, _, _, ⟨hb, by omega, World.ownsRow_nil _ _ _ _, World.ownsRow_nil _ _ _ _, World.ownsRow_nil _ _ _ _, hm.same (Below.heap_alloc _ _ _ hm.lt), Nat.le_refl _⟩, ⟨Nat.le_refl _, by simp, Nat.le_refl _, nofun, nofun⟩, ?_, rfl, by simp⟩
  exact ((Below.refl _ w).alloc (Nat.le_refl _) _).alloc (by simp) _

end Go.Proofs.YtnlpekhohakkbaaGreatDoor
