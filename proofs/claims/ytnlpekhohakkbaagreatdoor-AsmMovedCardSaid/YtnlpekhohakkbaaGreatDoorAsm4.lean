/- The walk of (*asm.assembler).line: a label. -/
import Derived.Test.YtnlpekhohakkbaaGreatDoorAsm3
import Derived.Test.YtnlpekhohakkbaaGreatDoorPlainCount
import Derived.WalkArith
import Derived.Deep.DeepCutAuto
import Derived.StillTailTactics
namespace Go.Proofs.YtnlpekhohakkbaaGreatDoor
open Go.RowKit Thole

theorem info_label : (Tryz.prog.info? 32).map (fun i => (i.zero, i.size, i.bytes)) = some (some (.agg #[.string ⟨#[]⟩, .int .i64 0]), 2, 24) := by kernel_rfl

set_option maxRecDepth 100000 in
set_option maxHeartbeats 1000000 in
theorem line_B1 (base g mb : Nat) (a : Asm) (cv lv gv : Value) (s : ByteArray) (n : Int) (w : World) (h : AsmAt base w g a a.labels cv lv gv mb) (hs : s.size < 4294967281) (hsh : w.ShapedOpen Tryz.prog)
    (op ia ib ic : Int) (nn : Int) (c : UInt8) (r tgt : Bytes) (hp : parseP s.data.toList = some ⟨c :: r, ⟨op, ia, ib, ic, nn⟩, tgt⟩) (hr : (c :: r).length ≤ maxLen) (v : Int) (hpl : place a.labels (c :: r) = some v) :
    Calls Tryz.prog 40 #[.pointer (some ⟨g, 0, none⟩), .string s, .int .i64 n] w (LineRes base g mb cv lv gv a s n w) := by
  have HR : Hid (lineP a s.data.toList n = .error 5) := by unfold Hid lineP; rw [hp]; simp [hpl]
  have HP := Lib.hid hpl
  have HL := Lib.hid hr
  clear hpl hr
  obtain ⟨i0, hi0, hz0, hz1, hz2⟩ := info_parts info_label
  go_enter Tryz.func40, Tryz.ntmps40
  go_wp2_with fail
  refine (parse_any s _ hs hsh).mono ?_
  rintro e w1 ⟨hr, hb⟩
  unfold ParseRes at hr
  rw [hp] at hr
  simp only [Option.getD_some, Option.isSome_some, if_true, lineCells] at hr
  obtain rfl := hr
  have HB := Lib.hid (Below.alloc hb hb.size (.cells #[.string ⟨(c :: r).toArray⟩, .int .i64 op, .int .i64 ia, .int .i64 ib, .int .i64 ic, .int .i64 nn, .string ⟨tgt.toArray⟩] 112))
  have HA := Lib.hid (h.below HB.out)
  have HG := Lib.hid (Blk.new w1 112 #[.string ⟨(c :: r).toArray⟩, .int .i64 op, .int .i64 ia, .int .i64 ib, .int .i64 ic, .int .i64 nn, .string ⟨tgt.toArray⟩])
  clear hb h
  go_wp2_with fail
  have hG : w1.heap.size < (w1.alloc (.cells #[.string ⟨(c :: r).toArray⟩, .int .i64 op, .int .i64 ia, .int .i64 ib, .int .i64 ic, .int .i64 nn, .string ⟨tgt.toArray⟩] 112)).heap.size := by simp
  generalize w1.alloc (.cells #[.string ⟨(c :: r).toArray⟩, .int .i64 op, .int .i64 ia, .int .i64 ib, .int .i64 ic, .int .i64 nn, .string ⟨tgt.toArray⟩] 112) = w2 at HB HA HG hG ⊢
  generalize w1.heap.size = G at HG hG ⊢
  have c2 := HA.out.blk.cell 2
  have g0 := HG.out.cell 0
  simp only [List.getElem?_toArray, List.getElem?_cons_zero, List.getElem?_cons_succ] at c2 g0
  have hlook := fun k => (HA.out.map.same (w' := w2.drewN k) rfl).look (c :: r) HL.out
  simp only [HP.out] at hlook
  simp only [Option.getD_some, Option.isSome_some] at hlook
  go_quiet (fail)
  go_wp2
  go_ret
  refine ⟨(Chg.of_below _ HB.out).drewN _, ?_⟩
  rw [HR.out]
  rfl

set_option maxRecDepth 100000 in
set_option maxHeartbeats 1000000 in
theorem line_B2 (base g mb : Nat) (a : Asm) (cv lv gv : Value) (s : ByteArray) (n : Int) (w : World) (hbase : base ≤ w.heap.size) (h : AsmAt base w g a a.labels cv lv gv mb) (hs : s.size < 4294967281) (hsh : w.ShapedOpen Tryz.prog)
    (op ia ib ic : Int) (nn : Int) (c : UInt8) (r tgt : Bytes) (hp : parseP s.data.toList = some ⟨c :: r, ⟨op, ia, ib, ic, nn⟩, tgt⟩) (hr : (c :: r).length ≤ maxLen) (hll : a.labels.length < 1099511627776) (hcl : a.code.length ≤ 1024) (hpl : place a.labels (c :: r) = none) :
    Calls Tryz.prog 40 #[.pointer (some ⟨g, 0, none⟩), .string s, .int .i64 n] w (LineRes base g mb cv lv gv a s n w) := by
  have HR : Hid (lineP a s.data.toList n = .ok { a with labels := a.labels ++ [(c :: r, (a.code.length : Int))] }) := by unfold Hid lineP; rw [hp]; simp [hpl]
  have HP := Lib.hid hpl
  have HL := Lib.hid hr
  clear hpl hr
  obtain ⟨i0, hi0, hz0, hz1, hz2⟩ := info_parts info_label
  go_enter Tryz.func40, Tryz.ntmps40
  go_wp2_with fail
  refine (parse_any s _ hs hsh).mono ?_
  rintro e w1 ⟨hr, hb⟩
  unfold ParseRes at hr
  rw [hp] at hr
  simp only [Option.getD_some, Option.isSome_some, if_true, lineCells] at hr
  obtain rfl := hr
  have HB := Lib.hid (Below.alloc hb hb.size (.cells #[.string ⟨(c :: r).toArray⟩, .int .i64 op, .int .i64 ia, .int .i64 ib, .int .i64 ic, .int .i64 nn, .string ⟨tgt.toArray⟩] 112))
  have HA := Lib.hid (h.below HB.out)
  have HG := Lib.hid (Blk.new w1 112 #[.string ⟨(c :: r).toArray⟩, .int .i64 op, .int .i64 ia, .int .i64 ib, .int .i64 ic, .int .i64 nn, .string ⟨tgt.toArray⟩])
  clear hb h
  go_wp2_with fail
  have hG : w1.heap.size < (w1.alloc (.cells #[.string ⟨(c :: r).toArray⟩, .int .i64 op, .int .i64 ia, .int .i64 ib, .int .i64 ic, .int .i64 nn, .string ⟨tgt.toArray⟩] 112)).heap.size := by simp
  generalize w1.alloc (.cells #[.string ⟨(c :: r).toArray⟩, .int .i64 op, .int .i64 ia, .int .i64 ib, .int .i64 ic, .int .i64 nn, .string ⟨tgt.toArray⟩] 112) = w2 at HB HA HG hG ⊢
  generalize w1.heap.size = G at HG hG ⊢
  have c2 := HA.out.blk.cell 2
  have g0 := HG.out.cell 0
  simp only [List.getElem?_toArray, List.getElem?_cons_zero, List.getElem?_cons_succ] at c2 g0
  have hlook := fun k => (HA.out.map.same (w' := w2.drewN k) rfl).look (c :: r) HL.out
  simp only [HP.out] at hlook
  simp only [Option.getD_none, Option.isSome_none] at hlook
  go_quiet (fail)
  go_wp2_with fail
  have HA3 := Lib.hid (HA.out.below (bdrewN (Below.refl _ w2) nq))
  have HG3 := Lib.hid (HG.out.drewN nq)
  have HB3 := Lib.hid (bdrewN HB.out nq)
  have hG3 : G < (w2.drewN nq).heap.size := hG
  clear hlook c2 g0 HA HG HB hG
  generalize w2.drewN nq = w3 at HA3 HG3 HB3 hG3 ⊢
  obtain ⟨pc, cc, rfl⟩ := row_form HA3.out.code
  have c0 := HA3.out.blk.cell 0
  have c2 := HA3.out.blk.cell 2
  have g0 := HG3.out.cell 0
  have hbase3 : base ≤ w3.heap.size := Nat.le_trans hbase HB3.out.size
  simp only [List.getElem?_toArray, List.getElem?_cons_zero, List.getElem?_cons_succ] at c0 c2 g0
  go_still_tail 11, (by kernel_rfl)
  obtain ⟨D, hown, hm, hat⟩ := HA3.out.map
  have HAT := Lib.hid hat
  clear hat
  refine wpList_mapUpdate_own w3.drew rfl _ _ _ 98 rfl 9 3 (Maps.string_keyed Tryz.underlying9) Tryz.underlying98 _ mb a.labels.length D (by rfl) hown (by unfold maxLen; omega) _ _ (.string (c :: r)) (by rfl) (by rfl) (key_string (c :: r) HL.out) (.lit (.int .i64 a.code.length)) [] (plainElem_int Tryz.underlying3 (WalkArith.wf_i64 (by omega))) ?_
  intro w4 hown4 hgrow4
  have h4 := HA3.out.put_map (grown_drew hgrow4) (PlacesAt.put HP.out hm HAT.out hown4)
  have HA4 := Lib.hid h4.1
  have HB4 := Lib.hid h4.2
  have HG4 := Lib.hid (HG3.out.grown (grown_drew hgrow4) (by have := HA3.out.map.ne_blk HG3.out; simpa using this.symm))
  have hbase4 : base ≤ w4.heap.size := Nat.le_trans hbase3 hgrow4.size
  clear hown4 hgrow4 hown h4 hm c0 c2 g0
  go_wp2_with fail
  obtain ⟨pl, cl, rfl⟩ := row_form HA4.out.labels
  have hg := HA4.out.blk.lt
  have hG4 := HG4.out.lt
  have ag := row_ne HA4.out.labels HA4.out.blk (by decide)
  have aG := row_ne HA4.out.labels HG4.out (by decide)
  have hgG := HA4.out.blk.ne_ HG4.out (by decide)
  have hGg := hgG.symm
  have c0 := HA4.out.blk.cell 0
  have c0' := fun o => (HA4.out.blk.alloc o).cell 0
  have c1 := HA4.out.blk.cell 1
  have c1' := fun o => (HA4.out.blk.alloc o).cell 1
  have g0 := HG4.out.cell 0
  have g0' := fun o => (HG4.out.alloc o).cell 0
  simp only [List.getElem?_toArray, List.getElem?_cons_zero, List.getElem?_cons_succ] at c0 c0' c1 c1' g0 g0'
  go_region_law
    ((refine step_append_lies _ (by rfl) _ _ _ (by rfl) base 32 i0 _ 2 24 Tryz.underlying26 hi0 hz0 hz1 hz2 rfl (by omega) _ a.labels.length _ (by rfl) ((HA4.out.labels.alloc _).drew)
        ⟨w4.heap.size, 0, none⟩ 1 1 [.string ⟨(c :: r).toArray⟩, .int .i64 a.code.length] (by rfl) (by rfl) (World.news_of_block (cs := #[.string ⟨(c :: r).toArray⟩, .int .i64 a.code.length]) (t := 32) (fr := (0, 0)) (heap_alloc_new w4 _)) (by simp [Value.oneCell'])
        (by omega) (by unfold maxLen; omega) (by omega) (by simp; omega) (w4.heap.size + 1) (by simp) ?_; intro gg cap w5 hown5 hgrow hat hlt5
      have hc5 : w5.cell? ⟨g, 1, none⟩ = some (.slice pl a.labels.length cl) := by rw [hgrow.cell_far _ (by simp; omega) (Ne.symm ag)]; exact c1' _
      have hf5 : w5.frozen? ⟨g, 1, none⟩ = false := by rw [hgrow.frozen_far _ (by simp; omega) (Ne.symm ag)]; exact (HA4.out.blk.alloc _).frozen 1))
  all_goals
    go_wp2
    go_ret
    obtain ⟨h1, h2⟩ := (HA4.out.below (Below.alloc (Below.refl _ _) (Nat.le_refl _) _)).put_label (x := (c :: r, (a.code.length : Int))) (grown_drew hgrow) hown5
    refine ⟨((((Chg.of_below _ HB3.out).trans (HB4.out.mono fun k hk => .inr (.inl hk))).alloc _).trans (h2.mono fun k hk => hk.elim .inl fun hk => .inr (.inr (.inr (.inl hk))))), ?_⟩
    rw [HR.out]
    exact ⟨rfl, _, _, _, h1⟩

theorem line_any (base g mb : Nat) (a : Asm) (cv lv gv : Value) (s : ByteArray) (n : Int) (w : World) (hbase : base ≤ w.heap.size) (h : AsmAt base w g a a.labels cv lv gv mb) (hs : s.size < 4294967281) (hsh : w.ShapedOpen Tryz.prog)
    {m : Nat} (ho : AsmOk a m) (hm : m < 1099511627776) :
    Calls Tryz.prog 40 #[.pointer (some ⟨g, 0, none⟩), .string s, .int .i64 n] w (LineRes base g mb cv lv gv a s n w) := by
  have hc := ho.code
  have hgl := ho.gone
  have hll := ho.labels
  cases hp : parseP s.data.toList with
  | none => exact line_A base g mb a cv lv gv s n w h hs hsh hp
  | some l =>
    obtain ⟨lab, ⟨op, ia, ib, ic, nn⟩, tgt⟩ := l
    have hle := parseP_label_le hp
    cases lab with
    | cons c r =>
      have hle : (c :: r).length ≤ maxLen := Nat.le_trans hle (by unfold maxLen; omega)
      cases hpl : place a.labels (c :: r) with
      | none => exact line_B2 base g mb a cv lv gv s n w hbase h hs hsh op ia ib ic nn c r tgt hp hle (by omega) hc hpl
      | some v => exact line_B1 base g mb a cv lv gv s n w h hs hsh op ia ib ic nn c r tgt hp hle v hpl
    | nil =>
      by_cases hop : op = 0
      · subst hop
        exact line_C base g mb a cv lv gv s n w h hs hsh ia ib ic nn tgt hp
      · have hop' : (op == 0) = false := by simpa using hop
        cases hl : decide ((1024 : Int) ≤ (a.code.length : Int))
        · cases tgt with
          | nil => exact line_E base g mb a cv lv gv s n w hbase h hs hsh op ia ib ic nn hp hop' hl
          | cons c r => exact line_F base g mb a cv lv gv s n w hbase h hs hsh op ia ib ic nn c r hp hop' (by omega) hl
        · exact line_D base g mb a cv lv gv s n w h hs hsh op ia ib ic nn tgt hp hop' hl

end Go.Proofs.YtnlpekhohakkbaaGreatDoor
