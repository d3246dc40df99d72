/- The walk of ins.Parse: a line. -/
import Derived.Test.YtnlpekhohakkbaaGreatDoorParse0
namespace Go.Proofs.YtnlpekhohakkbaaGreatDoor
open Go.RowKit Thole

/-- the beginning of each way through ins.Parse: what Trim leaves is t -/
theorem parse_begin {w w1 : World} (hb1 : Below (w.alloc (.cells (lineCells LineP.none) 112)).heap.size (w.alloc (.cells (lineCells LineP.none) 112)) w1) :
    Blk w1 w.heap.size 112 (lineCells LineP.none) ∧ Below w.heap.size w w1 :=
  ⟨(Blk.new w _ _).below hb1 (by simp), Below.trans ((Below.refl w.heap.size w).alloc (Nat.le_refl _) _) (hb1.mono (by simp))⟩

set_option maxHeartbeats 400000 in
theorem parse_A (s : ByteArray) (w : World) (hs : s.size ≤ 140737488355328) (h : trimV s = []) :
    Calls Tryz.prog 69 #[.string s] w fun e w' => ParseRes s e ∧ Below w.heap.size w w' := by
  have HP := Lib.hid (parse_empty' h)
  go_enter Tryz.func69, Tryz.ntmps69
  go_wp2_with fail
  refine (trim_ws s _ hs).mono ?_
  rintro e w1 ⟨rfl, hb1⟩
  rw [h]
  clear h
  obtain ⟨hB, hb⟩ := parse_begin hb1
  have hF := line_facts hB
  simp only [LineP.none] at hF
  have HS := Lib.hid (set_line hB LineP.none)
  have HB := Lib.hid hb
  clear hb1 hB hb
  go_wp2
  refine bodyPost_ret (w := putLine w1 w.heap.size LineP.none) (results_line rfl rfl HS.out.1) rfl ?_
  exact parse_done HB.out HS.out.2 (by rw [HP.out]; rfl) (by rw [HP.out]; rfl)
set_option maxHeartbeats 400000 in
theorem parse_B (s : ByteArray) (w : World) (hs : s.size ≤ 140737488355328) (r : Bytes) (h : trimV s = 59 :: r) :
    Calls Tryz.prog 69 #[.string s] w fun e w' => ParseRes s e ∧ Below w.heap.size w w' := by
  have HP := Lib.hid (parse_remark h)
  go_enter Tryz.func69, Tryz.ntmps69
  go_wp2_with fail
  refine (trim_ws s _ hs).mono ?_
  rintro e w1 ⟨rfl, hb1⟩
  rw [h]
  clear h
  obtain ⟨hB, hb⟩ := parse_begin hb1
  have hF := line_facts hB
  simp only [LineP.none] at hF
  have HS := Lib.hid (set_line hB LineP.none)
  have HB := Lib.hid hb
  clear hb1 hB hb
  go_wp2
  refine bodyPost_ret (w := putLine w1 w.heap.size LineP.none) (results_line rfl rfl HS.out.1) rfl ?_
  exact parse_done HB.out HS.out.2 (by rw [HP.out]; rfl) (by rw [HP.out]; rfl)
set_option maxHeartbeats 400000 in
theorem parse_C (s : ByteArray) (w : World) (hs : s.size ≤ 140737488355328) (c : UInt8) (r : Bytes) (h : trimV s = c :: r) (hc : ((c.toNat : Int) == 59) = false) (hl : isL (c :: r) = true) :
    Calls Tryz.prog 69 #[.string s] w fun e w' => ParseRes s e ∧ Below w.heap.size w w' := by
  have hle := trimV_le s
  rw [h] at hle
  have h0 : 0 < (⟨(c :: r).toArray⟩ : ByteArray).size := Nat.succ_pos _
  have hc' : ((((⟨(c :: r).toArray⟩ : ByteArray)[0]'h0).toNat : Int) == 59) = false := hc
  have HP := Lib.hid (parse_label h hc hl)
  go_enter Tryz.func69, Tryz.ntmps69
  go_wp2_with fail
  refine (trim_ws s _ hs).mono ?_
  rintro e w1 ⟨rfl, hb1⟩
  rw [h]
  clear h
  obtain ⟨hB, hb⟩ := parse_begin hb1
  have hF := line_facts hB
  simp only [LineP.none] at hF
  have HB := Lib.hid hb
  have HBk := Lib.hid hB
  clear hb1 hB hb
  go_wp2_with fail
  refine (cutSuffix_colon (c :: r) _ (by omega)).mono ?_
  rintro e w' ⟨rfl, rfl⟩
  rw [hl]
  go_wp2_with fail
  refine (name_any _ _).mono ?_
  rintro e w' ⟨rfl, rfl⟩
  rw [nameV_list]
  cases hn : nameB (cutL (c :: r))
  · rw [hn] at HP
    have HS := Lib.hid (set_line HBk.out LineP.none)
    go_wp2
    refine bodyPost_ret (w := putLine w1 w.heap.size LineP.none) (results_line rfl rfl HS.out.1) rfl ?_
    exact parse_done HB.out HS.out.2 (by rw [HP.out]; rfl) (by rw [HP.out]; rfl)
  · rw [hn] at HP
    have HS := Lib.hid (set_line HBk.out { LineP.none with label := cutL (c :: r) })
    go_wp2
    refine bodyPost_ret (w := putLine w1 w.heap.size { LineP.none with label := cutL (c :: r) }) (results_line rfl rfl HS.out.1) rfl ?_
    exact parse_done HB.out HS.out.2 (by rw [HP.out]; rfl) (by rw [HP.out]; rfl)

end Go.Proofs.YtnlpekhohakkbaaGreatDoor
