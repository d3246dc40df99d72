/- What the assembler's state is in a world: its block, its three rows, its map. -/
import Derived.Test.YtnlpekhohakkbaaGreatDoorParseD
import Derived.Deep.RegionHeld3
import Derived.Deep.RegionLaw
import Derived.Maps.Own
import Derived.Maps.Views
import Derived.Maps.OwnSet
namespace Thole
open Go Go.RowKit

def insVals (x : Ins) : List Value := [.int .i64 x.op, .int .i64 x.a, .int .i64 x.b, .int .i64 x.c, .int .i64 x.n]
def labVals (x : Bytes × Int) : List Value := [.string ⟨x.1.toArray⟩, .int .i64 x.2]
def goneVals (x : Int × Int × Bytes) : List Value := [.int .i64 x.1, .int .i64 x.2.1, .string ⟨x.2.2.toArray⟩]

theorem place_append (l : List (Bytes × Int)) (name x : Bytes) (v : Int) (h : place l name = none) :
    place (l ++ [(name, v)]) x = if x = name then some v else place l x := by
  unfold place at *
  rw [List.find?_append]
  by_cases e : x = name
  · subst e
    rw [if_pos rfl]
    cases hf : l.find? (fun y => y.1 == x) with
    | none => simp
    | some y => rw [hf] at h; simp at h
  · rw [if_neg e]
    cases hf : l.find? (fun y => y.1 == x) with
    | none => simp [Ne.symm e]
    | some y => simp

end Thole
namespace Go.Proofs.YtnlpekhohakkbaaGreatDoor
open Go.RowKit Thole

/-- block mb is a map that reads as the labels -/
def PlacesAt (w : World) (mb : Nat) (ls : List (Bytes × Int)) : Prop :=
  ∃ D : DataW Unit, w.ownsMap Tryz.prog 9 (plainElem Tryz.prog 3) mb ls.length D ∧ Maps.IsMap D ∧
    ∀ (x : Bytes) (z : DataW Unit), D.atKey (.string x) z = match place ls x with | some v => .lit (.int .i64 v) | none => z

theorem key_string (x : Bytes) (hx : x.length ≤ maxLen) : keyOf Tryz.prog 9 (.string ⟨x.toArray⟩) = some (.string x) := by
  rw [Go.WideMaps.keyOf_string_mk Tryz.underlying9 (by show x.toArray.size ≤ _; simpa using hx)]

section
variable {w w' : World} {mb : Nat} {ls : List (Bytes × Int)}
theorem PlacesAt.made (w : World) : PlacesAt (w.alloc (.map #[] 0)) w.heap.size [] :=
  ⟨.map [], World.ownsMap_made w _ _ _, ⟨[], rfl⟩, fun _ _ => rfl⟩
theorem PlacesAt.lt (h : PlacesAt w mb ls) : mb < w.heap.size := by
  obtain ⟨D, h, _⟩ := h
  exact h.lt
theorem PlacesAt.obj (h : PlacesAt w mb ls) : ∃ es clock, w.heap[mb]? = some (.map es clock) := by
  obtain ⟨D, ⟨es, clock, h, _⟩, _⟩ := h
  exact ⟨es, clock, h⟩
theorem PlacesAt.same (h : PlacesAt w mb ls) (e : w'.heap[mb]? = w.heap[mb]?) : PlacesAt w' mb ls := by
  obtain ⟨D, ⟨es, clock, h, h2⟩, h3⟩ := h
  exact ⟨D, ⟨es, clock, e.trans h, h2⟩, h3⟩
theorem zero_int (w : World) : (zeroValue 3).run Tryz.prog w = .ok (.int .i64 0) w := by
  simp [Tryz.zeroValue3]
theorem PlacesAt.look (h : PlacesAt w mb ls) (x : Bytes) (hx : x.length ≤ maxLen) :
    (Instr.lookup 98 (.map (some mb)) (.string ⟨x.toArray⟩) true).run Tryz.prog w = .ok (.tuple #[.int .i64 ((place ls x).getD 0), .bool (place ls x).isSome]) w := by
  obtain ⟨D, ⟨es, clock, hb, F, _, rfl⟩, _, hat⟩ := h
  rcases Maps.fit_look true (Maps.string_keyed Tryz.underlying9) Tryz.underlying98 (zero_int w) hb F (key_string x hx) with ⟨hrun, _, hz'⟩ | ⟨e0, y, _, _, hrun, hRv, hz', _⟩
  · rw [hrun]
    cases hp : place ls x with
    | none => rfl
    | some v =>
      have a := hz' .nil
      rw [hat x, hp] at a
      cases a
  · rw [hrun]
    obtain ⟨a, e1, rfl, _⟩ := plainElem_int_inv Tryz.underlying3 hRv
    rw [e1]
    have a := hz' .nil
    rw [hat x] at a
    cases hp : place ls x with
    | none => rw [hp] at a; cases a
    | some v =>
      rw [hp] at a
      cases a
      rfl
theorem PlacesAt.put {D : DataW Unit} {x : Bytes} {v : Int} (hp : place ls x = none) (hm : Maps.IsMap D)
    (hat : ∀ (x : Bytes) (z : DataW Unit), D.atKey (.string x) z = match place ls x with | some v => .lit (.int .i64 v) | none => z)
    (h : w.ownsMap Tryz.prog 9 (plainElem Tryz.prog 3) mb (ls.length + 1) (D.put (.string x) (.lit (.int .i64 v)))) : PlacesAt w mb (ls ++ [(x, v)]) := by
  refine ⟨_, by simpa using h, h.isMap, fun y z => ?_⟩
  rw [place_append _ _ _ _ hp]
  by_cases e : y = x
  · subst e
    rw [if_pos rfl, Maps.atKey_put_same (k := .string y) hm trivial]
  · rw [if_neg e, Maps.atKey_put_other (by simpa using e), hat]
end

/-- the assembler's state -/
structure AsmAt (base : Nat) (w : World) (g : Nat) (a : Asm) (pl : List (Bytes × Int)) (cv lv gv : Value) (mb : Nat) : Prop where
  blk : Blk w g 101 #[cv, lv, .map (some mb), gv]
  lo : base ≤ g
  code : w.ownsRow base 34 5 cv a.code.length (a.code.flatMap insVals)
  labels : w.ownsRow base 32 2 lv a.labels.length (a.labels.flatMap labVals)
  gone : w.ownsRow base 108 3 gv a.gone.length (a.gone.flatMap goneVals)
  map : PlacesAt w mb pl
  lom : base ≤ mb

theorem own_or (o : Option Nat) : o = none ∨ o ≠ none := Classical.em _
theorem row_form {w : World} {base : Nat} {e : TypeId} {size : Nat} {v : Value} {n : Nat} {xs : List Value} (h : w.ownsRow base e size v n xs) : ∃ p cap, v = .slice p n cap := by
  rcases h.2 with ⟨rfl, rfl⟩ | ⟨g, cap, _, rfl, _⟩
  · exact ⟨_, _, rfl⟩
  · exact ⟨_, _, rfl⟩
theorem row_ne {w : World} {base : Nat} {e : TypeId} {size : Nat} {v : Value} {n : Nat} {xs : List Value} (h : w.ownsRow base e size v n xs) {g : Nat} {t : TypeId} {cs : Array Value} (hb : Blk w g t cs) (hne : e ≠ t) : v.ownBlock ≠ some g := by
  rcases h.2 with ⟨rfl, rfl⟩ | ⟨g', cap, _, rfl, _, h', _⟩
  · simp [Value.ownBlock]
  · simp only [Value.ownBlock, ne_eq, Option.some.injEq]
    rintro rfl
    unfold Blk at hb
    rw [hb] at h'
    injection h' with h'
    injection h' with _ ht
    exact hne ht.symm
theorem row_ne_map {w : World} {base : Nat} {e : TypeId} {size : Nat} {v : Value} {n : Nat} {xs : List Value} (h : w.ownsRow base e size v n xs) {mb : Nat} {ls : List (Bytes × Int)} (hm : PlacesAt w mb ls) : v.ownBlock ≠ some mb := by
  obtain ⟨es, c, hm⟩ := hm.obj
  rcases h.2 with ⟨rfl, rfl⟩ | ⟨g', cap, _, rfl, _, h', _⟩
  · simp [Value.ownBlock]
  · simp only [Value.ownBlock, ne_eq, Option.some.injEq]
    rintro rfl
    rw [hm] at h'
    cases h'
theorem row_apart {w : World} {base : Nat} {e e' : TypeId} {size size' : Nat} {v v' : Value} {n n' : Nat} {xs xs' : List Value} (h : w.ownsRow base e size v n xs) (k : w.ownsRow base e' size' v' n' xs') (hne : e ≠ e') : v.ownBlock = none ∨ v.ownBlock ≠ v'.ownBlock := by
  rcases h.2 with ⟨rfl, rfl⟩ | ⟨g, cap, _, rfl, _, h1, _⟩
  · exact .inl rfl
  · right
    rcases k.2 with ⟨rfl, rfl⟩ | ⟨g', cap', _, rfl, _, h2, _⟩
    · simp [Value.ownBlock]
    · simp only [Value.ownBlock, ne_eq, Option.some.injEq]
      rintro rfl
      rw [h1] at h2
      injection h2 with h2
      injection h2 with _ ht
      exact hne ht
theorem PlacesAt.ne_blk {w : World} {mb : Nat} {ls : List (Bytes × Int)} (hm : PlacesAt w mb ls) {g : Nat} {t : TypeId} {cs : Array Value} (hb : Blk w g t cs) : mb ≠ g := by
  obtain ⟨es, c, hm⟩ := hm.obj
  rintro rfl
  unfold Blk at hb
  rw [hm] at hb
  cases hb
theorem grown_set (w : World) (p : Addr) (u : Value) : w.grownBy (w.setCell p u) (some p.block) :=
  ⟨rfl, rfl, rfl, by simp [World.setCell], fun k _ hk => Below.heap_setCell _ _ _ _ fun e => hk (by rw [e])⟩
theorem grown_drew {w w' : World} {row : Option Nat} (h : w.drew.grownBy w' row) : w.grownBy w' row := ⟨h.os, h.tape, h.output, h.size, h.block⟩
theorem below_grown {base : Nat} {w w1 w2 : World} {row : Option Nat} (h : Below base w w1) (hg : w1.grownBy w2 row) (hr : ∀ k, row = some k → base ≤ k) (hb : base ≤ w1.heap.size) : Below base w w2 :=
  h.trans ⟨hg.os, hg.tape, hg.output, hg.size, fun k hk => hg.block k (by omega) fun e => by have := hr k e.symm; omega⟩

section
variable {base : Nat} {w w' : World} {g : Nat} {a : Asm} {pl : List (Bytes × Int)} {cv lv gv : Value} {mb : Nat}
theorem AsmAt.below (h : AsmAt base w g a pl cv lv gv mb) (hb : Below w.heap.size w w') : AsmAt base w' g a pl cv lv gv mb :=
  have hg : w.grownBy w' none := ⟨hb.os, hb.tape, hb.output, hb.size, fun k hk _ => hb.block k hk⟩
  ⟨h.blk.below hb h.blk.lt, h.lo, h.code.kept hg (own_or _), h.labels.kept hg (own_or _), h.gone.kept hg (own_or _), h.map.same (hb.block _ h.map.lt), h.lom⟩

/-- the code's row has grown, and its value has been stored -/
theorem AsmAt.put_code (h : AsmAt base w g a pl cv lv gv mb) (hg : w.grownBy w' cv.ownBlock) {u : Value} {x : Ins} (hu : w'.ownsRow base 34 5 u (a.code.length + 1) (a.code.flatMap insVals ++ insVals x)) :
    AsmAt base (w'.setCell ⟨g, 0, none⟩ u) g { a with code := a.code ++ [x] } pl u lv gv mb ∧ Chg (fun k => k = g ∨ cv.ownBlock = some k) w (w'.setCell ⟨g, 0, none⟩ u) := by
  have hB : Blk w' g 101 #[cv, lv, .map (some mb), gv] := h.blk.grown hg (Ne.symm (row_ne h.code h.blk (by decide)))
  have hS := grown_set w' ⟨g, 0, none⟩ u
  have hl := h.labels.kept hg (row_apart h.labels h.code (by decide))
  have hgo := h.gone.kept hg (row_apart h.gone h.code (by decide))
  have hm : PlacesAt w' mb pl := h.map.same (hg.block _ h.map.lt (Ne.symm (row_ne_map h.code h.map)))
  exact ⟨⟨hB.set_ 0 u, h.lo, by simpa using hu.kept hS (.inr (row_ne hu hB (by decide))), hl.kept hS (.inr (row_ne hl hB (by decide))), hgo.kept hS (.inr (row_ne hgo hB (by decide))), hm.same (hS.block _ hm.lt (by have := hm.ne_blk hB; simpa using this)), h.lom⟩,
    ((Chg.refl _ w).grown hg (fun k hk => .inl (.inr hk))).grown hS (fun k hk => .inl (.inl (by simpa using hk.symm)))⟩
theorem AsmAt.put_label (h : AsmAt base w g a pl cv lv gv mb) (hg : w.grownBy w' lv.ownBlock) {u : Value} {x : Bytes × Int} (hu : w'.ownsRow base 32 2 u (a.labels.length + 1) (a.labels.flatMap labVals ++ labVals x)) :
    AsmAt base (w'.setCell ⟨g, 1, none⟩ u) g { a with labels := a.labels ++ [x] } pl cv u gv mb ∧ Chg (fun k => k = g ∨ lv.ownBlock = some k) w (w'.setCell ⟨g, 1, none⟩ u) := by
  have hB : Blk w' g 101 #[cv, lv, .map (some mb), gv] := h.blk.grown hg (Ne.symm (row_ne h.labels h.blk (by decide)))
  have hS := grown_set w' ⟨g, 1, none⟩ u
  have hl := h.code.kept hg (row_apart h.code h.labels (by decide))
  have hgo := h.gone.kept hg (row_apart h.gone h.labels (by decide))
  have hm : PlacesAt w' mb pl := h.map.same (hg.block _ h.map.lt (Ne.symm (row_ne_map h.labels h.map)))
  exact ⟨⟨hB.set_ 1 u, h.lo, hl.kept hS (.inr (row_ne hl hB (by decide))), by simpa using hu.kept hS (.inr (row_ne hu hB (by decide))), hgo.kept hS (.inr (row_ne hgo hB (by decide))), hm.same (hS.block _ hm.lt (by have := hm.ne_blk hB; simpa using this)), h.lom⟩,
    ((Chg.refl _ w).grown hg (fun k hk => .inl (.inr hk))).grown hS (fun k hk => .inl (.inl (by simpa using hk.symm)))⟩
theorem AsmAt.put_gone (h : AsmAt base w g a pl cv lv gv mb) (hg : w.grownBy w' gv.ownBlock) {u : Value} {x : Int × Int × Bytes} (hu : w'.ownsRow base 108 3 u (a.gone.length + 1) (a.gone.flatMap goneVals ++ goneVals x)) :
    AsmAt base (w'.setCell ⟨g, 3, none⟩ u) g { a with gone := a.gone ++ [x] } pl cv lv u mb ∧ Chg (fun k => k = g ∨ gv.ownBlock = some k) w (w'.setCell ⟨g, 3, none⟩ u) := by
  have hB : Blk w' g 101 #[cv, lv, .map (some mb), gv] := h.blk.grown hg (Ne.symm (row_ne h.gone h.blk (by decide)))
  have hS := grown_set w' ⟨g, 3, none⟩ u
  have hl := h.code.kept hg (row_apart h.code h.gone (by decide))
  have hgo := h.labels.kept hg (row_apart h.labels h.gone (by decide))
  have hm : PlacesAt w' mb pl := h.map.same (hg.block _ h.map.lt (Ne.symm (row_ne_map h.gone h.map)))
  exact ⟨⟨hB.set_ 3 u, h.lo, hl.kept hS (.inr (row_ne hl hB (by decide))), hgo.kept hS (.inr (row_ne hgo hB (by decide))), by simpa using hu.kept hS (.inr (row_ne hu hB (by decide))), hm.same (hS.block _ hm.lt (by have := hm.ne_blk hB; simpa using this)), h.lom⟩,
    ((Chg.refl _ w).grown hg (fun k hk => .inl (.inr hk))).grown hS (fun k hk => .inl (.inl (by simpa using hk.symm)))⟩
/-- what the assembler may write -/
def Foot (g mb : Nat) (cv lv gv : Value) (k : Nat) : Prop := k = g ∨ k = mb ∨ cv.ownBlock = some k ∨ lv.ownBlock = some k ∨ gv.ownBlock = some k
theorem AsmAt.foot (h : AsmAt base w g a pl cv lv gv mb) (k : Nat) (hk : Foot g mb cv lv gv k) : base ≤ k := by
  rcases hk with rfl | rfl | hk | hk | hk
  · exact h.lo
  · exact h.lom
  · exact (h.code.lt k hk).1
  · exact (h.labels.lt k hk).1
  · exact (h.gone.lt k hk).1
/-- a block of strings is none of the assembler's -/
theorem AsmAt.apart (h : AsmAt base w g a pl cv lv gv mb) {b : Nat} {cs : Array Value} (hb : Blk w b 9 cs) : ¬ Foot g mb cv lv gv b := by
  rintro (rfl | rfl | hk | hk | hk)
  · exact h.blk.ne_ hb (by decide) rfl
  · exact h.map.ne_blk hb rfl
  · exact row_ne h.code hb (by decide) hk
  · exact row_ne h.labels hb (by decide) hk
  · exact row_ne h.gone hb (by decide) hk
/-- a label has been put into the map -/
theorem AsmAt.put_map (h : AsmAt base w g a pl cv lv gv mb) (hg : w.grownBy w' (some mb)) {pl' : List (Bytes × Int)} (hm : PlacesAt w' mb pl') :
    AsmAt base w' g a pl' cv lv gv mb ∧ Chg (fun k => k = mb) w w' :=
  ⟨⟨h.blk.grown hg (by have := h.map.ne_blk h.blk; simpa using this.symm), h.lo, h.code.kept hg (.inr (row_ne_map h.code h.map)), h.labels.kept hg (.inr (row_ne_map h.labels h.map)), h.gone.kept hg (.inr (row_ne_map h.gone h.map)), hm, h.lom⟩,
    (Chg.refl _ w).grown hg (fun k hk => .inl (by simpa using hk.symm))⟩
end

end Go.Proofs.YtnlpekhohakkbaaGreatDoor
