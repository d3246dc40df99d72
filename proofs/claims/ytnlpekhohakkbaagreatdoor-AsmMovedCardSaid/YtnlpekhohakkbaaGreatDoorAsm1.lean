/- The walk of (*asm.assembler).line. -/
import Derived.Test.YtnlpekhohakkbaaGreatDoorAsm0
namespace Go.Proofs.YtnlpekhohakkbaaGreatDoor
open Go.RowKit Thole

/-- what the assembler's line hands back -/
def LineRes (base : Nat) (g mb : Nat) (cv lv gv : Value) (a : Asm) (s : ByteArray) (n : Int) (w : World) (e : Ending) (w' : World) : Prop :=
  Chg (Foot g mb cv lv gv) w w' ∧ match lineP a s.data.toList n with
  | .error c => e = .returned (codeV c)
  | .ok b => e = .returned .nilIface ∧ ∃ cv lv gv, AsmAt base w' g b b.labels cv lv gv mb

theorem AsmAt.cells {base : Nat} {w w1 : World} {g : Nat} {a : Asm} {pl : List (Bytes × Int)} {cv lv gv : Value} {mb : Nat} (h : AsmAt base w g a pl cv lv gv mb) (hb : Below w.heap.size w w1) :
    (∀ o, (w1.alloc o).cell? ⟨g, 0, none⟩ = some cv ∧ (w1.alloc o).cell? ⟨g, 1, none⟩ = some lv ∧ (w1.alloc o).cell? ⟨g, 2, none⟩ = some (.map (some mb)) ∧ (w1.alloc o).cell? ⟨g, 3, none⟩ = some gv) :=
  fun o => have h := (h.below hb).blk.alloc o; ⟨h.cell 0, h.cell 1, h.cell 2, h.cell 3⟩
set_option maxRecDepth 100000 in
set_option maxHeartbeats 400000 in
theorem line_A (base g mb : Nat) (a : Asm) (cv lv gv : Value) (s : ByteArray) (n : Int) (w : World) (h : AsmAt base w g a a.labels cv lv gv mb) (hs : s.size < 4294967281) (hsh : w.ShapedOpen Tryz.prog) (hp : parseP s.data.toList = none) :
    Calls Tryz.prog 40 #[.pointer (some ⟨g, 0, none⟩), .string s, .int .i64 n] w (LineRes base g mb cv lv gv a s n w) := by
  have HR : Hid (lineP a s.data.toList n = .error 2) := by unfold Hid lineP; rw [hp]
  go_enter Tryz.func40, Tryz.ntmps40
  go_wp2_with fail
  refine (parse_any s _ hs hsh).mono ?_
  rintro e w1 ⟨hr, hb⟩
  unfold ParseRes at hr
  rw [hp] at hr
  simp only [Option.getD_none, Option.isSome_none, Bool.false_eq_true, if_false, codeV, lineCells, LineP.none] at hr
  obtain rfl := hr
  have HB := Lib.hid (Below.alloc hb hb.size (.cells (lineCells LineP.none) 112))
  have HA := Lib.hid (h.below HB.out)
  clear hb h
  go_wp2
  go_ret
  exact ⟨Chg.of_below _ HB.out, by rw [HR.out]; rfl⟩

set_option maxRecDepth 100000 in
set_option maxHeartbeats 400000 in
theorem line_C (base g mb : Nat) (a : Asm) (cv lv gv : Value) (s : ByteArray) (n : Int) (w : World) (h : AsmAt base w g a a.labels cv lv gv mb) (hs : s.size < 4294967281) (hsh : w.ShapedOpen Tryz.prog) (ia ib ic : Int) (nn : Int) (tgt : Bytes) (hp : parseP s.data.toList = some ⟨[], ⟨0, ia, ib, ic, nn⟩, tgt⟩) :
    Calls Tryz.prog 40 #[.pointer (some ⟨g, 0, none⟩), .string s, .int .i64 n] w (LineRes base g mb cv lv gv a s n w) := by
  have HR : Hid (lineP a s.data.toList n = .ok a) := by unfold Hid lineP; rw [hp]; simp
  go_enter Tryz.func40, Tryz.ntmps40
  go_wp2_with fail
  refine (parse_any s _ hs hsh).mono ?_
  rintro e w1 ⟨hr, hb⟩
  unfold ParseRes at hr
  rw [hp] at hr
  simp only [Option.getD_some, Option.isSome_some, if_true, lineCells] at hr
  obtain rfl := hr
  have HB := Lib.hid (Below.alloc hb hb.size (.cells (lineCells ⟨[], ⟨0, ia, ib, ic, nn⟩, tgt⟩) 112))
  have HA := Lib.hid (h.below HB.out)
  clear hb h
  go_wp2
  go_ret
  refine ⟨Chg.of_below _ HB.out, ?_⟩
  rw [HR.out]
  exact ⟨rfl, _, _, _, HA.out⟩

set_option maxRecDepth 100000 in
set_option maxHeartbeats 400000 in
theorem line_D (base g mb : Nat) (a : Asm) (cv lv gv : Value) (s : ByteArray) (n : Int) (w : World) (h : AsmAt base w g a a.labels cv lv gv mb) (hs : s.size < 4294967281) (hsh : w.ShapedOpen Tryz.prog) (op ia ib ic : Int) (nn : Int) (tgt : Bytes) (hp : parseP s.data.toList = some ⟨[], ⟨op, ia, ib, ic, nn⟩, tgt⟩) (hop : (op == 0) = false) (hl : decide ((1024 : Int) ≤ (a.code.length : Int)) = true) :
    Calls Tryz.prog 40 #[.pointer (some ⟨g, 0, none⟩), .string s, .int .i64 n] w (LineRes base g mb cv lv gv a s n w) := by
  have HR : Hid (lineP a s.data.toList n = .error 8) := by unfold Hid lineP; rw [hp]; have := of_decide_eq_true hl; simp at hop; simp [hop]; omega
  go_enter Tryz.func40, Tryz.ntmps40
  go_wp2_with fail
  refine (parse_any s _ hs hsh).mono ?_
  rintro e w1 ⟨hr, hb⟩
  unfold ParseRes at hr
  rw [hp] at hr
  simp only [Option.getD_some, Option.isSome_some, if_true, lineCells] at hr
  obtain rfl := hr
  have HB := Lib.hid (Below.alloc hb hb.size (.cells (lineCells ⟨[], ⟨op, ia, ib, ic, nn⟩, tgt⟩) 112))
  have HA := Lib.hid (h.below HB.out)
  obtain ⟨pc, cc, rfl⟩ := row_form HA.out.code
  have hF := h.cells hb
  clear hb h
  go_wp2
  go_ret
  refine ⟨Chg.of_below _ HB.out, ?_⟩
  rw [HR.out]
  rfl

end Go.Proofs.YtnlpekhohakkbaaGreatDoor
