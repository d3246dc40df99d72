/- What the walk of ins.Parse leans on: the table of shapes, Trim, Split, the store of a line. -/
import Derived.Test.YtnlpekhohakkbaaGreatDoorField
import Derived.Test.YtnlpekhohakkbaaGreatDoorPlainLine
namespace Go.Proofs.YtnlpekhohakkbaaGreatDoor
open Go.RowKit Thole

def strs (l : List Bytes) : Array Value := (l.map fun x => Value.string ⟨x.toArray⟩).toArray
def shapeCells : Array Value := (allShapes.flatMap fun x => [Value.string ⟨x.1.toArray⟩, Value.string ⟨x.2.toArray⟩]).toArray

set_option maxHeartbeats 1000000 in
theorem shapes_any (w : World) :
    Calls Tryz.prog 133 #[] w fun e w' => e = .returned (.slice (some ⟨w.heap.size, 0, none⟩) 23 23) ∧ w' = w.alloc (.cells shapeCells 230) := by
  go_enter Tryz.func133, Tryz.ntmps133
  go_wp2
  go_ret
  exact ⟨rfl, rfl⟩

theorem ascii_ws : ∀ (j : Nat) b, (⟨#[32, 9]⟩ : ByteArray).data.toList[j]? = some b → b.toNat < 128 := ascii_of_all (by decide)
theorem trim_ws (s : ByteArray) (w : World) (hs : s.size ≤ 140737488355328) :
    Calls Tryz.prog 130 #[.string s, .string ⟨#[32, 9]⟩] w fun e w' => e = .returned (.string ⟨(trimV s).toArray⟩) ∧ Below w.heap.size w w' :=
  (Any.strings_Trim_laid Tryz.lays160 info_asciiSet s ⟨#[32, 9]⟩ w (by omega) (by decide) ascii_ws).mono fun _ _ ⟨he, hw⟩ => ⟨he.trans (by rw [trimV, ← trimWs_eq]), hw⟩

theorem cutSuffix_colon (t : Bytes) (w : World) (ht : t.length ≤ 140737488355328) :
    Calls Tryz.prog 131 #[.string ⟨t.toArray⟩, .string ⟨#[58]⟩] w fun e w' => e = .returned (.tuple #[.string ⟨(cutL t).toArray⟩, .bool (isL t)]) ∧ w = w' :=
  (Tryz.strings_CutSuffix ⟨t.toArray⟩ ⟨#[58]⟩ w (by show t.toArray.size ≤ _; rw [List.size_toArray]; omega)).mono fun _ _ ⟨he, hw⟩ => ⟨he, hw.symm⟩
theorem nameV_list (l : Bytes) : nameV ⟨l.toArray⟩ = nameB l := rfl
theorem split_one (c : UInt8) (s : ByteArray) (w : World) (hs : s.size < 4294967281) (hsh : w.ShapedOpen Tryz.prog) :
    Calls Tryz.prog 39 #[.string s, .string ⟨#[c]⟩] w fun e w' =>
      e = .returned (.slice (some ⟨w.heap.size, 0, none⟩) (splitOn' c s.data.toList).length (splitOn' c s.data.toList).length) ∧ w' = w.alloc (.cells (strs (splitOn' c s.data.toList)) 9) :=
  (Tryz.strings_Split_shaped s ⟨#[c]⟩ w hsh hs (Nat.le_refl 1)).mono fun _ _ ⟨he, hw⟩ => by
    rw [countB_eq c s ⟨#[c]⟩ rfl] at he
    rw [splitB_bytes c s ⟨#[c]⟩ rfl, List.map_map] at hw
    exact ⟨he, hw⟩

/-- the error of a number as a value -/
def codeV (n : Int) : Value := .iface 96 (.int .i64 n)
/-- what ins.Parse hands back -/
def ParseRes (s : ByteArray) (e : Ending) : Prop :=
  e = .returned (.tuple #[.agg (lineCells ((parseP s.data.toList).getD LineP.none)), if (parseP s.data.toList).isSome then .nilIface else codeV 2])

theorem parse_empty' {s : ByteArray} (h : trimV s = []) : parseP s.data.toList = some LineP.none := by
  unfold parseP
  simp only
  rw [show trimWs s.data.toList = [] from h]
  rfl
theorem parse_remark {s : ByteArray} {r : Bytes} (h : trimV s = 59 :: r) : parseP s.data.toList = some LineP.none := by
  unfold parseP
  simp only
  rw [show trimWs s.data.toList = 59 :: r from h]
  rfl

/-- all that a walk asks of a line's block -/
theorem line_facts {w : World} {g : Nat} {l : LineP} (h : Blk w g 112 (lineCells l)) :
    (w.cell? ⟨g, 0, none⟩ = some (.string ⟨l.label.toArray⟩) ∧ w.cell? ⟨g, 1, none⟩ = some (.int .i64 l.ins.op) ∧ w.cell? ⟨g, 2, none⟩ = some (.int .i64 l.ins.a) ∧ w.cell? ⟨g, 3, none⟩ = some (.int .i64 l.ins.b) ∧ w.cell? ⟨g, 4, none⟩ = some (.int .i64 l.ins.c) ∧ w.cell? ⟨g, 5, none⟩ = some (.int .i64 l.ins.n) ∧
      w.cell? ⟨g, 6, none⟩ = some (.string ⟨l.target.toArray⟩)) ∧ (w.frozen? ⟨g, 0, none⟩ = false ∧ w.frozen? ⟨g, 1, none⟩ = false ∧ w.frozen? ⟨g, 2, none⟩ = false ∧ w.frozen? ⟨g, 3, none⟩ = false ∧ w.frozen? ⟨g, 4, none⟩ = false ∧ w.frozen? ⟨g, 5, none⟩ = false ∧ w.frozen? ⟨g, 6, none⟩ = false) :=
  ⟨⟨h.cell 0, h.cell 1, h.cell 2, h.cell 3, h.cell 4, h.cell 5, h.cell 6⟩, ⟨h.frozen 0, h.frozen 1, h.frozen 2, h.frozen 3, h.frozen 4, h.frozen 5, h.frozen 6⟩⟩

theorem results_line {w : World} {g : Nat} {l : LineP} {e : Value} {tmps : Array Value} (h2 : tmps[2]?.getD undef = .pointer (some ⟨g, 0, none⟩)) (h3 : tmps[3]?.getD undef = e) (hB : Blk w g 112 (lineCells l)) :
    (results Tryz.f69 tmps).run Tryz.prog w = .ok (.tuple #[.agg (lineCells l), e]) w := by
  have hF := line_facts hB
  simp [results, Tryz.results69, go_sem, h2, h3, hF, lineCells]

/-- a store of a value of seven cells -/
def put7 (w : World) (g : Nat) (b0 b1 b2 b3 b4 b5 b6 : Value) : World := ((((((w.setCell ⟨g, 0, none⟩ b0).setCell ⟨g, 1, none⟩ b1).setCell ⟨g, 2, none⟩ b2).setCell ⟨g, 3, none⟩ b3).setCell ⟨g, 4, none⟩ b4).setCell ⟨g, 5, none⟩ b5).setCell ⟨g, 6, none⟩ b6
theorem put7_blk {w : World} {g : Nat} {t : TypeId} {a0 a1 a2 a3 a4 a5 a6 : Value} (h : Blk w g t #[a0, a1, a2, a3, a4, a5, a6]) (b0 b1 b2 b3 b4 b5 b6 : Value) : Blk (put7 w g b0 b1 b2 b3 b4 b5 b6) g t #[b0, b1, b2, b3, b4, b5, b6] := by
  have h0 : Blk _ g t #[b0, a1, a2, a3, a4, a5, a6] := h.set_ 0 b0
  have h1 : Blk _ g t #[b0, b1, a2, a3, a4, a5, a6] := h0.set_ 1 b1
  have h2 : Blk _ g t #[b0, b1, b2, a3, a4, a5, a6] := h1.set_ 2 b2
  have h3 : Blk _ g t #[b0, b1, b2, b3, a4, a5, a6] := h2.set_ 3 b3
  have h4 : Blk _ g t #[b0, b1, b2, b3, b4, a5, a6] := h3.set_ 4 b4
  have h5 : Blk _ g t #[b0, b1, b2, b3, b4, b5, a6] := h4.set_ 5 b5
  exact h5.set_ 6 b6
theorem put7_chg (w : World) (g : Nat) (b0 b1 b2 b3 b4 b5 b6 : Value) : Chg (fun k => k = g) w (put7 w g b0 b1 b2 b3 b4 b5 b6) :=
  (((((((Chg.refl (fun k => k = g) w).setCell (p := ⟨g, 0, none⟩) (.inl rfl) b0).setCell (p := ⟨g, 1, none⟩) (.inl rfl) b1).setCell (p := ⟨g, 2, none⟩) (.inl rfl) b2).setCell (p := ⟨g, 3, none⟩) (.inl rfl) b3).setCell (p := ⟨g, 4, none⟩) (.inl rfl) b4).setCell (p := ⟨g, 5, none⟩) (.inl rfl) b5).setCell (p := ⟨g, 6, none⟩) (.inl rfl) b6
/-- the world behind a store of a line -/
def putLine (w : World) (g : Nat) (m : LineP) : World := put7 w g (.string ⟨m.label.toArray⟩) (.int .i64 m.ins.op) (.int .i64 m.ins.a) (.int .i64 m.ins.b) (.int .i64 m.ins.c) (.int .i64 m.ins.n) (.string ⟨m.target.toArray⟩)
theorem set_line {w : World} {g : Nat} {l : LineP} (h : Blk w g 112 (lineCells l)) (m : LineP) : Blk (putLine w g m) g 112 (lineCells m) ∧ Chg (fun k => k = g) w (putLine w g m) :=
  ⟨put7_blk h _ _ _ _ _ _ _, put7_chg _ _ _ _ _ _ _ _ _⟩

/-- what is left when the line's block has been written, and the call ends -/
theorem parse_done {s : ByteArray} {w w1 w2 : World} {l : LineP} {e : Value} (hB : Below w.heap.size w w1) (hC : Chg (fun k => k = w.heap.size) w1 w2) (hP : (parseP s.data.toList).getD LineP.none = l) (he : (if (parseP s.data.toList).isSome then .nilIface else codeV 2) = e) :
    ParseRes s (.returned (.tuple #[.agg (lineCells l), e])) ∧ Below w.heap.size w w2 := by
  subst hP
  subst he
  exact ⟨rfl, hB.trans (hC.below hB.size (fun k hk => by omega))⟩

theorem below_two {w w1 : World} (h : Below w.heap.size w w1) (o p : Obj) : Below w.heap.size w ((w1.alloc o).alloc p) :=
  (h.alloc h.size o).alloc (by have := h.size; simp; omega) p

end Go.Proofs.YtnlpekhohakkbaaGreatDoor
