/- The walk of (*asm.assembler).line: an instruction that goes to a name. -/
import Derived.Test.YtnlpekhohakkbaaGreatDoorAsm2
import Derived.Deep.DeepCutAuto
namespace Go.Proofs.YtnlpekhohakkbaaGreatDoor
open Go.RowKit Thole

theorem info_going : (Tryz.prog.info? 108).map (fun i => (i.zero, i.size, i.bytes)) = some (some (.agg #[.int .i64 0, .int .i64 0, .string ⟨#[]⟩]), 3, 32) := by kernel_rfl

/-- what stands when the going has been laid -/
def CutF (base : Nat) (w2 : World) (g G mb : Nat) (a : Asm) (cv lv gv : Value) (cs : Array Value) (wx : World) : Prop :=
  ∃ gv', AsmAt base wx g a a.labels cv lv gv' mb ∧ Chg (fun k => k = g ∨ gv.ownBlock = some k) w2 wx ∧ Blk wx G 112 cs

set_option maxRecDepth 100000 in
set_option maxHeartbeats 1000000 in
theorem line_F (base g mb : Nat) (a : Asm) (cv lv gv : Value) (s : ByteArray) (n : Int) (w : World) (hbase : base ≤ w.heap.size) (h : AsmAt base w g a a.labels cv lv gv mb) (hs : s.size < 4294967281) (hsh : w.ShapedOpen Tryz.prog)
    (op ia ib ic : Int) (nn : Int) (c : UInt8) (r : Bytes) (hp : parseP s.data.toList = some ⟨[], ⟨op, ia, ib, ic, nn⟩, c :: r⟩) (hop : (op == 0) = false) (hgl : a.gone.length ≤ 1024) (hl : decide ((1024 : Int) ≤ (a.code.length : Int)) = false) :
    Calls Tryz.prog 40 #[.pointer (some ⟨g, 0, none⟩), .string s, .int .i64 n] w (LineRes base g mb cv lv gv a s n w) := by
  have hlt : a.code.length < 1024 := by have := of_decide_eq_false hl; omega
  have HR : Hid (lineP a s.data.toList n = .ok { a with gone := a.gone ++ [((a.code.length : Int), n, c :: r)], code := a.code ++ [⟨op, ia, ib, ic, nn⟩] }) := by unfold Hid lineP; rw [hp]; simp at hop; simp [hop]; omega
  obtain ⟨i0, hi0, hz0, hz1, hz2⟩ := info_parts info_ins
  obtain ⟨j0, hj0, hy0, hy1, hy2⟩ := info_parts info_going
  go_enter Tryz.func40, Tryz.ntmps40
  go_wp2_with fail
  refine (parse_any s _ hs hsh).mono ?_
  rintro e w1 ⟨hr, hb⟩
  unfold ParseRes at hr
  rw [hp] at hr
  simp only [Option.getD_some, Option.isSome_some, if_true, lineCells] at hr
  obtain rfl := hr
  have HB := Lib.hid (Below.alloc hb hb.size (.cells #[.string ⟨#[]⟩, .int .i64 op, .int .i64 ia, .int .i64 ib, .int .i64 ic, .int .i64 nn, .string ⟨(c :: r).toArray⟩] 112))
  have HA := Lib.hid (h.below HB.out)
  obtain ⟨pc, cc, rfl⟩ := row_form HA.out.code
  have hF := h.cells hb
  have HG := Lib.hid (Blk.new w1 112 #[.string ⟨#[]⟩, .int .i64 op, .int .i64 ia, .int .i64 ib, .int .i64 ic, .int .i64 nn, .string ⟨(c :: r).toArray⟩])
  obtain ⟨pg, cg, rfl⟩ := row_form HA.out.gone
  clear hb h
  go_wp2_with fail
  clear hF
  have hG : w1.heap.size < (w1.alloc (.cells #[.string ⟨#[]⟩, .int .i64 op, .int .i64 ia, .int .i64 ib, .int .i64 ic, .int .i64 nn, .string ⟨(c :: r).toArray⟩] 112)).heap.size := by simp
  generalize w1.alloc (.cells #[.string ⟨#[]⟩, .int .i64 op, .int .i64 ia, .int .i64 ib, .int .i64 ic, .int .i64 nn, .string ⟨(c :: r).toArray⟩] 112) = w2 at HB HA HG hG ⊢
  generalize w1.heap.size = G at HG hG ⊢
  have hg := HA.out.blk.lt
  have ag := row_ne HA.out.gone HA.out.blk (by decide)
  have aG := row_ne HA.out.gone HG.out (by decide)
  have hgG := HA.out.blk.ne_ HG.out (by decide)
  have hGg := hgG.symm
  have c0 := HA.out.blk.cell 0
  have c0' := fun o => (HA.out.blk.alloc o).cell 0
  have c3 := HA.out.blk.cell 3
  have c3' := fun o => (HA.out.blk.alloc o).cell 3
  have g6 := HG.out.cell 6
  have g6' := fun o => (HG.out.alloc o).cell 6
  have hbase2 : base ≤ w2.heap.size := Nat.le_trans hbase HB.out.size
  simp only [List.getElem?_toArray, List.getElem?_cons_zero, List.getElem?_cons_succ] at c0 c0' c3 c3' g6 g6'
  go_cut [] (fun wx => CutF base w2 g G mb { a with gone := a.gone ++ [((a.code.length : Int), n, c :: r)] } (.slice pc a.code.length cc) lv (.slice pg a.gone.length cg) #[.string ⟨#[]⟩, .int .i64 op, .int .i64 ia, .int .i64 ib, .int .i64 ic, .int .i64 nn, .string ⟨(c :: r).toArray⟩] wx)
  case first =>
   go_region_law
    ((refine step_append_lies _ (by rfl) _ _ _ (by rfl) base 108 j0 _ 3 32 Tryz.underlying99 hj0 hy0 hy1 hy2 rfl (by omega) _ a.gone.length _ (by rfl) ((HA.out.gone.alloc _).drew)
        ⟨w2.heap.size, 0, none⟩ 1 1 [.int .i64 a.code.length, .int .i64 n, .string ⟨(c :: r).toArray⟩] (by rfl) (by rfl) (World.news_of_block (cs := #[.int .i64 a.code.length, .int .i64 n, .string ⟨(c :: r).toArray⟩]) (t := 108) (fr := (0, 0)) (heap_alloc_new w2 _)) (by simp [Value.oneCell'])
        (by omega) (by unfold maxLen; omega) (by omega) (by simp; omega) (w2.heap.size + 1) (by simp) ?_; intro gg cap w3 hown3 hgrow hat hlt3
      have hc3 : w3.cell? ⟨g, 3, none⟩ = some (.slice pg a.gone.length cg) := by rw [hgrow.cell_far _ (by simp; omega) (Ne.symm ag)]; exact c3' _
      have hf3 : w3.frozen? ⟨g, 3, none⟩ = false := by rw [hgrow.frozen_far _ (by simp; omega) (Ne.symm ag)]; exact (HA.out.blk.alloc _).frozen 3))
   all_goals
    go_wp2_with fail
    go_meet
    obtain ⟨h1, h2⟩ := (HA.out.below (Below.alloc (Below.refl _ _) (Nat.le_refl _) _)).put_gone (x := ((a.code.length : Int), n, c :: r)) (grown_drew hgrow) hown3
    exact ⟨_, h1, ((Chg.refl _ _).alloc _).trans h2, ((HG.out.alloc _).grown (grown_drew hgrow) (Ne.symm aG)).far hGg _⟩
  case rest =>
  obtain ⟨gv', h4, hb4, hg4⟩ := hcut
  have HA4 := Lib.hid h4
  have HB4 := Lib.hid hb4
  have HG4 := Lib.hid hg4
  generalize wc = w4 at HA4 HB4 HG4 ⊢
  clear h4 hb4 hg4 ag aG hgG hGg c0 c0' c3 c3' g6 g6' hbase2 hg
  go_wp2_with fail
  have hg := HA4.out.blk.lt
  have ag := row_ne HA4.out.code HA4.out.blk (by decide)
  have aG := row_ne HA4.out.code HG4.out (by decide)
  have hgG := HA4.out.blk.ne_ HG4.out (by decide)
  have hGg := hgG.symm
  have c0 := HA4.out.blk.cell 0
  have c0' := fun o => (HA4.out.blk.alloc o).cell 0
  have f0 := HA4.out.blk.frozen 0
  have g1 := HG4.out.cell 1
  have g2 := HG4.out.cell 2
  have g3 := HG4.out.cell 3
  have g4 := HG4.out.cell 4
  have g5 := HG4.out.cell 5
  have n1 := World.new_ne w4 _ g1
  have n2 := World.new_ne w4 _ g2
  have n3 := World.new_ne w4 _ g3
  have n4 := World.new_ne w4 _ g4
  have n5 := World.new_ne w4 _ g5
  have hbase2 : base ≤ w4.heap.size := Nat.le_trans hbase (Nat.le_trans HB.out.size HB4.out.size)
  simp only [List.getElem?_toArray, List.getElem?_cons_zero, List.getElem?_cons_succ] at c0 c0' g1 g2 g3 g4 g5
  go_region_law
    ((refine step_append_lies _ (by rfl) _ _ _ (by rfl) base 34 i0 _ 5 40 Tryz.underlying25 hi0 hz0 hz1 hz2 rfl (by omega) _ a.code.length _ (by rfl) ((HA4.out.code.alloc _).drew)
        ⟨w4.heap.size, 0, none⟩ 1 1 [.int .i64 op, .int .i64 ia, .int .i64 ib, .int .i64 ic, .int .i64 nn] (by rfl) (by rfl) (World.news_of_block (cs := #[.int .i64 op, .int .i64 ia, .int .i64 ib, .int .i64 ic, .int .i64 nn]) (t := 34) (fr := (0, 0)) (heap_alloc_new w4 _)) (by simp [Value.oneCell'])
        (by omega) (by unfold maxLen; omega) (by omega) (by simp; omega) (w4.heap.size + 1) (by simp) ?_; intro gg cap w5 hown3 hgrow hat hlt3
      have hc3 : w5.cell? ⟨g, 0, none⟩ = some (.slice pc a.code.length cc) := by rw [hgrow.cell_far _ (by simp; omega) (Ne.symm ag)]; exact c0' _
      have hf3 : w5.frozen? ⟨g, 0, none⟩ = false := by rw [hgrow.frozen_far _ (by simp; omega) (Ne.symm ag)]; exact (HA4.out.blk.alloc _).frozen 0))
  all_goals
    go_wp2
    go_ret
    obtain ⟨h1, h2⟩ := (HA4.out.below (Below.alloc (Below.refl _ _) (Nat.le_refl _) _)).put_code (x := ⟨op, ia, ib, ic, nn⟩) (grown_drew hgrow) hown3
    refine ⟨((((Chg.of_below _ HB.out).trans (HB4.out.mono fun k hk => hk.elim .inl fun hk => .inr (.inr (.inr (.inr hk))))).alloc _).trans (h2.mono fun k hk => hk.elim .inl fun hk => .inr (.inr (.inl hk)))), ?_⟩
    rw [HR.out]
    exact ⟨rfl, _, _, _, h1⟩


end Go.Proofs.YtnlpekhohakkbaaGreatDoor
