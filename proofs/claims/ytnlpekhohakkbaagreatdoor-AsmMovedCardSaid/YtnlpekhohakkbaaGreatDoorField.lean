/- The walk of ins.field: a field of a line is read. -/
import Derived.Test.YtnlpekhohakkbaaGreatDoorIns
import Derived.Test.YtnlpekhohakkbaaGreatDoorWords
namespace Go.Proofs.YtnlpekhohakkbaaGreatDoor
open Go.RowKit Thole

/-- a line's cells -/
def lineCells (l : LineP) : Array Value := #[.string ⟨l.label.toArray⟩, .int .i64 l.ins.op, .int .i64 l.ins.a, .int .i64 l.ins.b, .int .i64 l.ins.c, .int .i64 l.ins.n, .string ⟨l.target.toArray⟩]

/-- what ins.field hands back, and what the line holds behind it -/
def FieldRes (g : Nat) (l : LineP) (what : UInt8) (s : ByteArray) (w : World) (e : Ending) (w' : World) : Prop :=
  ∃ b l', e = .returned (.bool b) ∧ Blk w' g 112 (lineCells l') ∧ (fieldP l what s.data.toList = if b = true then some l' else none) ∧ Chg (fun k => k = g) w w'

theorem cells_of_line {w : World} {g : Nat} {l : LineP} (h : Blk w g 112 (lineCells l)) :
    w.cell? ⟨g, 2, none⟩ = some (.int .i64 l.ins.a) ∧ w.cell? ⟨g, 3, none⟩ = some (.int .i64 l.ins.b) ∧ w.cell? ⟨g, 4, none⟩ = some (.int .i64 l.ins.c) ∧ w.cell? ⟨g, 5, none⟩ = some (.int .i64 l.ins.n) ∧
      w.cell? ⟨g, 6, none⟩ = some (.string ⟨l.target.toArray⟩) ∧ w.frozen? ⟨g, 2, none⟩ = false ∧ w.frozen? ⟨g, 3, none⟩ = false ∧ w.frozen? ⟨g, 4, none⟩ = false ∧ w.frozen? ⟨g, 5, none⟩ = false ∧ w.frozen? ⟨g, 6, none⟩ = false :=
  ⟨h.cell 2, h.cell 3, h.cell 4, h.cell 5, h.cell 6, h.frozen 2, h.frozen 3, h.frozen 4, h.frozen 5, h.frozen 6⟩

theorem fieldP_reg {l : LineP} {what : UInt8} {s : Bytes} {up : LineP → Int → LineP} (h : fieldP l what s = (registerP s).map (up l)) {v : Int} {b : Bool} (hr : registerP s = if b = true then some v else none) :
    fieldP l what s = if b = true then some (up l v) else none := by
  rw [h, hr]
  cases b <;> rfl

set_option maxHeartbeats 400000 in
theorem field_A (g : Nat) (l : LineP) (s : ByteArray) (w : World) (hs : s.size ≤ 140737488355328) (hb : Blk w g 112 (lineCells l)) :
    Calls Tryz.prog 134 #[.pointer (some ⟨g, 0, none⟩), .int .u8 65, .string s] w (FieldRes g l 65 s w) := by
  go_enter Tryz.func134, Tryz.ntmps134
  go_wp2_with fail
  refine (register_any _ _ hs).mono ?_
  rintro e w1 ⟨⟨v, b, rfl, hv⟩, hb1⟩
  have HV := Lib.hid hv
  clear hv
  have hB := hb.below hb1 hb.lt
  have hc := (hB.cell 2)
  have hf := hB.frozen 2
  simp only [lineCells] at hc
  go_wp2
  go_ret
  exact ⟨b, { l with ins := { l.ins with a := v } }, rfl, hB.set_ 2 (.int .i64 v), fieldP_reg (up := fun l v => { l with ins := { l.ins with a := v } }) rfl HV.out, (Chg.of_below (fun k => k = g) hb1).setCell (p := ⟨g, 2, none⟩) (.inl rfl) _⟩

set_option maxHeartbeats 400000 in
theorem field_B (g : Nat) (l : LineP) (s : ByteArray) (w : World) (hs : s.size ≤ 140737488355328) (hb : Blk w g 112 (lineCells l)) :
    Calls Tryz.prog 134 #[.pointer (some ⟨g, 0, none⟩), .int .u8 66, .string s] w (FieldRes g l 66 s w) := by
  go_enter Tryz.func134, Tryz.ntmps134
  go_wp2_with fail
  refine (register_any _ _ hs).mono ?_
  rintro e w1 ⟨⟨v, b, rfl, hv⟩, hb1⟩
  have HV := Lib.hid hv
  clear hv
  have hB := hb.below hb1 hb.lt
  have hc := (hB.cell 3)
  have hf := hB.frozen 3
  simp only [lineCells] at hc
  go_wp2
  go_ret
  exact ⟨b, { l with ins := { l.ins with b := v } }, rfl, hB.set_ 3 (.int .i64 v), fieldP_reg (up := fun l v => { l with ins := { l.ins with b := v } }) rfl HV.out, (Chg.of_below (fun k => k = g) hb1).setCell (p := ⟨g, 3, none⟩) (.inl rfl) _⟩

set_option maxHeartbeats 400000 in
theorem field_C (g : Nat) (l : LineP) (s : ByteArray) (w : World) (hs : s.size ≤ 140737488355328) (hb : Blk w g 112 (lineCells l)) :
    Calls Tryz.prog 134 #[.pointer (some ⟨g, 0, none⟩), .int .u8 67, .string s] w (FieldRes g l 67 s w) := by
  go_enter Tryz.func134, Tryz.ntmps134
  go_wp2_with fail
  refine (register_any _ _ hs).mono ?_
  rintro e w1 ⟨⟨v, b, rfl, hv⟩, hb1⟩
  have HV := Lib.hid hv
  clear hv
  have hB := hb.below hb1 hb.lt
  have hc := (hB.cell 4)
  have hf := hB.frozen 4
  simp only [lineCells] at hc
  go_wp2
  go_ret
  exact ⟨b, { l with ins := { l.ins with c := v } }, rfl, hB.set_ 4 (.int .i64 v), fieldP_reg (up := fun l v => { l with ins := { l.ins with c := v } }) rfl HV.out, (Chg.of_below (fun k => k = g) hb1).setCell (p := ⟨g, 4, none⟩) (.inl rfl) _⟩

set_option maxHeartbeats 400000 in
theorem field_N (g : Nat) (l : LineP) (s : ByteArray) (w : World) (hs : s.size ≤ 140737488355328) (hb : Blk w g 112 (lineCells l)) :
    Calls Tryz.prog 134 #[.pointer (some ⟨g, 0, none⟩), .int .u8 78, .string s] w (FieldRes g l 78 s w) := by
  go_enter Tryz.func134, Tryz.ntmps134
  go_wp2_with fail
  refine (number_any _ _ hs).mono ?_
  rintro e w1 ⟨⟨v, b, rfl, hv⟩, hb1⟩
  have hF : fieldP l 78 s.data.toList = if b = true then some { l with ins := { l.ins with n := v } } else none := by
    have : fieldP l 78 s.data.toList = (numV s).map fun v => { l with ins := { l.ins with n := v } } := rfl
    rw [this, hv]
    cases b <;> rfl
  have HV := Lib.hid hF
  clear hv hF
  have hB := hb.below hb1 hb.lt
  have hc := (hB.cell 5)
  have hf := hB.frozen 5
  simp only [lineCells] at hc
  go_wp2
  go_ret
  exact ⟨b, { l with ins := { l.ins with n := v } }, rfl, hB.set_ 5 (.int .i64 v), HV.out, (Chg.of_below (fun k => k = g) hb1).setCell (p := ⟨g, 5, none⟩) (.inl rfl) _⟩

set_option maxHeartbeats 400000 in
theorem field_T (g : Nat) (l : LineP) (s : ByteArray) (w : World) (hb : Blk w g 112 (lineCells l)) :
    Calls Tryz.prog 134 #[.pointer (some ⟨g, 0, none⟩), .int .u8 84, .string s] w (FieldRes g l 84 s w) := by
  go_enter Tryz.func134, Tryz.ntmps134
  go_wp2_with fail
  refine (name_any _ _).mono ?_
  rintro e w1 ⟨rfl, rfl⟩
  obtain ⟨b, hbn⟩ : ∃ b, nameV s = b := ⟨_, rfl⟩
  rw [hbn]
  have hF : fieldP l 84 s.data.toList = if b = true then some { l with target := s.data.toList } else none := by
    rw [← hbn]
    rfl
  have HV := Lib.hid hF
  clear hbn hF
  have hc := (hb.cell 6)
  have hf := hb.frozen 6
  simp only [lineCells] at hc
  go_wp2
  go_ret
  refine ⟨b, { l with target := s.data.toList }, rfl, ?_, HV.out, (Chg.refl (fun k => k = g) w).setCell (p := ⟨g, 6, none⟩) (.inl rfl) _⟩
  have := hb.set_ 6 (.string s)
  exact this

/-- one contract for whatever an instruction may have -/
theorem field_any (g : Nat) (l : LineP) (what : UInt8) (s : ByteArray) (w : World) (hs : s.size ≤ 140737488355328) (hb : Blk w g 112 (lineCells l)) (hw : what = 65 ∨ what = 66 ∨ what = 67 ∨ what = 78 ∨ what = 84) :
    Calls Tryz.prog 134 #[.pointer (some ⟨g, 0, none⟩), .int .u8 (what.toNat : Int), .string s] w (FieldRes g l what s w) := by
  rcases hw with rfl | rfl | rfl | rfl | rfl
  · exact field_A g l s w hs hb
  · exact field_B g l s w hs hb
  · exact field_C g l s w hs hb
  · exact field_N g l s w hs hb
  · exact field_T g l s w hb

end Go.Proofs.YtnlpekhohakkbaaGreatDoor
