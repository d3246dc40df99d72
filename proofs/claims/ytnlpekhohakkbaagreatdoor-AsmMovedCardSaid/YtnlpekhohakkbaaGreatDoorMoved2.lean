/- The walk of tholelaw08.AsmMoved: all of it. -/
import Derived.Test.YtnlpekhohakkbaaGreatDoorMoved
namespace Thole
def frontB : Nat → Bytes
  | 0 => []
  | k + 1 => [110, 111, 119, 32, 114, 49, 10] ++ frontB k
theorem frontB_end : ∀ k, frontB k ++ [110, 111, 119, 32, 114, 49, 10] = frontB (k + 1)
  | 0 => rfl
  | k + 1 => by
    show ([110, 111, 119, 32, 114, 49, 10] ++ frontB k) ++ _ = [110, 111, 119, 32, 114, 49, 10] ++ frontB (k + 1)
    rw [List.append_assoc, frontB_end k]
theorem frontB_len : ∀ k, (frontB k).length = 7 * k
  | 0 => rfl
  | k + 1 => by
    show ([110, 111, 119, 32, 114, 49, 10] ++ frontB k).length = _
    rw [List.length_append, frontB_len k]
    simp
    omega
theorem frontB_split : ∀ k, splitOn' 10 (frontB k) = List.replicate k nowLine ++ [[]]
  | 0 => rfl
  | k + 1 => by
    show splitOn' 10 ([110, 111, 119, 32, 114, 49, 10] ++ frontB k) = _
    simp only [List.cons_append, List.nil_append, splitOn', frontB_split k]
    rfl
theorem frontB_cat (k : Nat) : (⟨(frontB k).toArray⟩ : ByteArray) ++ ⟨#[110, 111, 119, 32, 114, 49, 10]⟩ = ⟨(frontB (k + 1)).toArray⟩ := by
  rw [← frontB_end k]
  apply ByteArray.ext
  rw [ByteArray.data_append]
  simp
end Thole
namespace Go.Proofs.YtnlpekhohakkbaaGreatDoor
open Go.RowKit Thole

theorem wpList_append_run {P : Program} (w : World) {ops : Array Oper} {rest : List Oper} {o : Oper} {a : Act} {Q : Exit → Act → World → Prop} (hgd : o.guard = none) (s x : Operand) (t : TypeId)
    (ho : o.op = .call { callee := .builtin .append, args := #[s, x], argTypes := #[t, t] }) (vs vx v' : Value) (w' : World) (hs : a.eval s = vs) (hx : a.eval x = vx)
    (hr : (Builtin.append_ #[t, t] o.type #[vs, vx]).run P w = .ok v' w') (h : wpList P ops Q rest (a.put o.dst v') w') : wpList P ops Q (o :: rest) a w := by
  refine wpList_plain hgd fun K hK => ?_
  unfold Oper.wp execOp
  simp only [ho, resolve, invoke, builtin, Sem.run_bind, Sem.run_pure, Result.andThen_ok, List.map_toArray, List.map_cons, List.map_nil, hs, hx, hr]
  exact hK _ _ h

theorem run_append_zero (ty : TypeId) (a : Addr) (p : Option Addr) (cap : Nat) (w : World) : (Builtin.append_ #[22, 22] ty #[.slice (some a) 1 1, .slice p 0 cap]).run Tryz.prog w = .ok (.slice (some a) 1 1) w := by
  cases p <;> simp [Builtin.append_, run_underlying Tryz.underlying22, Builtin.lenOf, Builtin.firstCells, storeCells, Result.andThen, loadCells, loadCellsFrom]

theorem info_string : (Tryz.prog.info? 9).map (fun i => (i.zero, i.size, i.bytes)) = some (some (.string ⟨#[]⟩), 1, 16) := by kernel_rfl

/-- 'append([]string{front}, texts...)' -/
theorem append_front (ty : TypeId) (front : Bytes) (texts : List Bytes) (p : Option Addr) (cap g : Nat) (w : World) (hg : Blk w g 9 (strs [front])) (ht : StrsAt w p texts) (hl : texts.length ≤ 40) :
    ∃ gg cap' w', (Builtin.append_ #[22, 22] ty #[.slice (some ⟨g, 0, none⟩) 1 1, .slice p texts.length cap]).run Tryz.prog w = .ok (.slice (some ⟨gg, 0, none⟩) (1 + texts.length) cap') w' ∧
      StrsAt w' (some ⟨gg, 0, none⟩) (front :: texts) ∧ Chg (fun k => k = g) w w' := by
  by_cases h0 : texts.length = 0
  · have e : texts = [] := List.length_eq_zero_iff.1 h0
    subst e
    refine ⟨g, 1, w, run_append_zero ty _ p cap w, fun i hi => ⟨g, 0, rfl, hg.lt, ?_⟩, Chg.refl _ _⟩
    rw [Nat.zero_add]
    exact strs_cell hg i hi
  · obtain ⟨tb, o, rfl, _, _⟩ := ht 0 (by omega)
    obtain ⟨i0, hi0, hz0, hz1, hz2⟩ := info_parts info_string
    have hown : w.ownsRow g 9 1 (.slice (some ⟨g, 0, none⟩) 1 1) 1 [.string ⟨front.toArray⟩] :=
      ⟨rfl, .inr ⟨g, 1, _, rfl, Nat.le_refl _, hg, Nat.le_refl _, by unfold maxLen; omega, rfl, rfl⟩⟩
    have hnews : ∀ j u, (texts.map fun x => Value.string ⟨x.toArray⟩)[j]? = some u → w.cell? ((⟨tb, o, none⟩ : Addr).add j) = some u := by
      intro j u hu
      rw [List.getElem?_map] at hu
      obtain ⟨x, hx, rfl⟩ := Option.map_eq_some_iff.1 hu
      obtain ⟨hj, rfl⟩ := List.getElem?_eq_some_iff.1 hx
      obtain ⟨tb', o', e, _, hc⟩ := ht j hj
      cases e
      rw [show (⟨tb, o, none⟩ : Addr).add j = ⟨tb, o + j, none⟩ by unfold Addr.add; split <;> simp_all]
      exact hc
    obtain ⟨gg, cap', w', hr, h2, h3, h4, h5⟩ := run_append_lies (P := Tryz.prog) w 22 ty g 9 i0 _ 1 16 Tryz.underlying22 hi0 hz0 hz1 hz2 rfl (by omega) _ 1 _ hown ⟨tb, o, none⟩ texts.length cap (texts.map fun x => Value.string ⟨x.toArray⟩)
      (by simp) hnews (by intro u hu; obtain ⟨x, _, rfl⟩ := List.mem_map.1 hu; rfl) (by omega) (by unfold maxLen; omega) (by omega) (Nat.le_of_lt hg.lt) w.heap.size rfl
    refine ⟨gg, cap', w', hr, fun i hi => ⟨gg, 0, rfl, h5, ?_⟩, (Chg.refl (fun k => k = g) w).grown h3 (fun k hk => .inl (by simp [Value.ownBlock] at hk; exact hk.symm))⟩
    rw [Nat.zero_add, h2.cellAt i (by rw [List.length_cons] at hi; omega)]
    have : ([Value.string ⟨front.toArray⟩] ++ texts.map fun x => Value.string ⟨x.toArray⟩) = (front :: texts).map fun x => Value.string ⟨x.toArray⟩ := rfl
    rw [this, List.getElem?_map, List.getElem?_eq_getElem hi]
    rfl

theorem code_cells {base : Nat} {w : World} {gb cg n : Nat} {l : List Ins} (hn : l.length = n) (h : w.ownsRow base 34 5 (.slice (some ⟨gb, 0, none⟩) n cg) n (l.flatMap insVals)) (k : Nat) (x : Ins) (hx : l[k]? = some x) :
    w.cell? ⟨gb, k * 5, none⟩ = some (.int .i64 x.op) ∧ w.cell? ⟨gb, k * 5 + 1, none⟩ = some (.int .i64 x.a) ∧ w.cell? ⟨gb, k * 5 + 2, none⟩ = some (.int .i64 x.b) ∧ w.cell? ⟨gb, k * 5 + 3, none⟩ = some (.int .i64 x.c) ∧ w.cell? ⟨gb, k * 5 + 4, none⟩ = some (.int .i64 x.n) := by
  subst hn
  obtain ⟨hk, rfl⟩ := List.getElem?_eq_some_iff.1 hx
  have hf : ∀ x, (insVals x).length = 5 := fun _ => rfl
  have g0 := h.cellAt (k * 5 + 0) (by omega)
  have g1 := h.cellAt (k * 5 + 1) (by omega)
  have g2 := h.cellAt (k * 5 + 2) (by omega)
  have g3 := h.cellAt (k * 5 + 3) (by omega)
  have g4 := h.cellAt (k * 5 + 4) (by omega)
  rw [flat_get hf l k hk _ (by omega)] at g0 g1 g2 g3 g4
  exact ⟨g0, g1, g2, g3, g4⟩

theorem row_len {w : World} {base : Nat} {e : TypeId} {size : Nat} {v : Value} {n : Nat} {xs : List Value} (h : w.ownsRow base e size v n xs) : n ≤ 9223372036854775807 := by
  rcases h.2 with ⟨_, rfl⟩ | ⟨_, cap, _, _, _, _, h1, h2, _⟩
  · omega
  · unfold maxLen at h2
    omega
theorem label_cells {base : Nat} {w : World} {gb cg : Nat} {l : List (Bytes × Int)} (h : w.ownsRow base 32 2 (.slice (some ⟨gb, 0, none⟩) l.length cg) l.length (l.flatMap labVals)) (k : Nat) (hk : k < l.length) :
    w.cell? ⟨gb, k * 2, none⟩ = some (.string ⟨(l[k]'hk).1.toArray⟩) ∧ w.cell? ⟨gb, k * 2 + 1, none⟩ = some (.int .i64 (l[k]'hk).2) := by
  have hf : ∀ x, (labVals x).length = 2 := fun _ => rfl
  have g0 := h.cellAt (k * 2 + 0) (by omega)
  have g1 := h.cellAt (k * 2 + 1) (by omega)
  rw [flat_get hf l k hk _ (by omega)] at g0 g1
  exact ⟨g0, g1⟩

set_option maxRecDepth 100000 in
set_option maxHeartbeats 2000000 in
theorem moved_main (texts : List Bytes) (p : Option Addr) (cap : Nat) (n : Nat) (w : World) (hsh : w.ShapedOpen Tryz.prog) (hg : Handle w) (ht : StrsAt w p texts)
    (hs : shortP texts = true) (h50 : n ≤ 50) (c : List Ins) (l : List (Bytes × Int)) (ha : assemble texts = .ok (c, l)) (hcn : c.length + n ≤ 1024) :
    Calls Tryz.prog 3 #[.slice p texts.length cap, .int .i64 n] w (MovedRes w) := by
  obtain ⟨hl1, hl2, hl3⟩ := shortP_facts hs
  have HS := Lib.hid hsh
  have HG := Lib.hid hg
  have HT := Lib.hid ht
  have HL := Lib.hid hl2
  have HSP := Lib.hid hs
  have HAS := Lib.hid ha
  obtain ⟨d, hd1, hd2, hd3⟩ := assemble_moved texts n (frontB n) (frontB_split n) c l ha hcn
  have HD1 := Lib.hid hd1
  have HD2 := Lib.hid hd2
  have HD3 := Lib.hid hd3
  clear hd1 hd2 hd3
  have hd0 : decide ((n : Int) < 0) = false := decide_eq_false (by omega)
  have hd5 : decide (50 < (n : Int)) = false := decide_eq_false (by omega)
  clear hsh hg ht hl2 hs ha
  go_enter Tryz.func3, Tryz.ntmps3
  go_wp2_with fail
  refine (up_true w HS.out HG.out).mono ?_
  rintro e w1 ⟨rfl, hb1⟩
  have HB1 := Lib.hid hb1
  clear hb1
  go_wp2_with fail
  refine (short_any texts p cap w1 (HT.out.below HB1.out) (fun s hs => Nat.le_trans (HL.out s hs) (by decide))).mono ?_
  rintro e w2 ⟨rfl, rfl⟩
  rw [HSP.out]
  go_wp2_with fail
  refine (assemble_any texts p cap w1 (shaped_below HS.out HB1.out) (HT.out.below HB1.out) (fun s hs => Nat.lt_of_le_of_lt (HL.out s hs) (by decide)) (by omega) (by omega)).mono ?_
  rintro e w2 ⟨hb2, hr⟩
  have HB2 : Hid (Below w.heap.size w w2) := HB1.out.trans (hb2.mono HB1.out.size)
  rw [HAS.out] at hr
  obtain ⟨cv, lv, rfl, hc, hlr⟩ := hr
  have HC := Lib.hid hc
  have HLR := Lib.hid hlr
  obtain ⟨pc, cc, rfl⟩ := row_form hc
  obtain ⟨pl, cl, rfl⟩ := row_form hlr
  have hw : IntKind.i64.wrap ((c.length : Int) + n) = (c.length : Int) + n := IntWalk.i64_in _ (by omega)
  have hd : decide (1024 < (c.length : Int) + n) = false := decide_eq_false (by omega)
  clear hb2 hc hlr
  obtain ⟨m, hm⟩ : ∃ m, texts.length = m := ⟨_, rfl⟩
  have HM := Lib.hid hm
  rw [hm] at hl1 ⊢
  clear hm
  go_wp2_with fail
  go_loopw [10, 11] (fun v10 v11 wr => ∃ i : Nat, i ≤ n ∧ v11 = .int .i64 i ∧ v10 = .string ⟨(frontB i).toArray⟩ ∧ w2 = wr) (fun _ v11 _ => n - (intOf v11).toNat)
  case atStart => exact ⟨0, by omega, rfl, rfl, rfl⟩
  case round =>
    obtain ⟨i, hi, rfl, rfl, rfl⟩ := hrel
    by_cases hin : i < n
    · have hdi := decide_eq_true (p := i < n) hin
      have hcat := frontB_cat i
      have hwi : IntKind.i64.wrap ((i : Int) + 1) = (i : Int) + 1 := IntWalk.i64_in _ (by omega)
      have hfl : (frontB i).length ≤ 350 := by rw [frontB_len]; omega
      go_wp2_with fail
      go_roundw
      case rel => exact ⟨i + 1, by omega, by go_num, rfl, trivial⟩
      case measure => simp [intOf]; omega
    · obtain rfl : i = n := by omega
      have hB3 : Below w2.heap.size w2 (w2.alloc (.cells (strs [frontB i]) 9)) := (Below.refl w2.heap.size w2).alloc (Nat.le_refl _) _
      obtain ⟨gg, cap', w4, hap, hst, hch⟩ := append_front 22 (frontB i) texts p cap w2.heap.size _ (Blk.new w2 9 (strs [frontB i])) ((HT.out.below HB2.out).below hB3) (by rw [HM.out]; exact hl1)
      have hB4 : Below w2.heap.size w2 w4 := hB3.trans (hch.below (by simp) (fun k hk => by omega))
      have HST := Lib.hid hst
      have HB4 := Lib.hid hB4
      have HM1 : Hid (1 + m = (frontB i :: texts).length) := by unfold Hid; rw [List.length_cons, HM.out]; omega
      rw [HM.out, show strs [frontB i] = #[Value.string ⟨(frontB i).toArray⟩] from rfl] at hap
      have HAP := Lib.hid hap
      clear hap
      clear hst hch hB3 hB4
      go_wp2_with (refine wpList_append_run _ rfl (.tmp 59) (.tmp 60) 22 rfl _ _ _ _ rfl rfl HAP.out ?_)
      rw [HM1.out]
      refine (assemble_any (frontB i :: texts) _ cap' w4 (shaped_below HS.out (HB2.out.trans (HB4.out.mono HB2.out.size))) HST.out (fun s hs => ?_) ?_ ?_).mono ?_
      · rcases List.mem_cons.1 hs with rfl | hs
        · rw [frontB_len]; omega
        · exact Nat.lt_of_le_of_lt (HL.out s hs) (by decide)
      · have h1 : (allLines (frontB i :: texts)).length = (splitOn' 10 (frontB i)).length + (allLines texts).length := by simp [allLines]
        rw [h1, frontB_split]
        simp
        omega
      · rw [← HM1.out]; omega
      rintro e w5 ⟨hb5, hr⟩
      rw [HD1.out] at hr
      obtain ⟨cv2, lv2, rfl, hc2, hl2⟩ := hr
      obtain ⟨pd, cd, rfl⟩ := row_form hc2
      obtain ⟨pm, cm, rfl⟩ := row_form hl2
      have hb5' : Below w2.heap.size w2 w5 := HB4.out.trans (hb5.mono HB4.out.size)
      have HB5 : Hid (Below w.heap.size w w5) := HB2.out.trans (hb5'.mono HB2.out.size)
      have hgr : w2.grownBy w5 none := ⟨hb5'.os, hb5'.tape, hb5'.output, hb5'.size, fun k hk _ => hb5'.block k hk⟩
      have HC5 := Lib.hid (HC.out.kept hgr (own_or _))
      have HL5 := Lib.hid (HLR.out.kept hgr (own_or _))
      have HD5 := Lib.hid hc2
      have HM5 := Lib.hid hl2
      have hll : (shL i l).length = l.length := by simp [shL]
      rw [hll] at HM5 ⊢
      obtain ⟨dl, hdl⟩ : ∃ dl, d.length = dl := ⟨_, rfl⟩
      have hdl2 : dl = c.length + i := by rw [← hdl]; exact HD2.out
      rw [hdl] at HD5 ⊢
      have hne : ((dl : Int) != (c.length : Int) + (i : Int)) = false := by rw [bne_eq_false_iff_eq]; omega
      have HDL := Lib.hid hdl
      have HDL2 := Lib.hid hdl2
      clear hb5 hb5' hgr hc2 hl2 hll hdl hdl2
      go_wp2_with fail
      clear HAP HST
      go_loopw [15] (fun v15 wr => ∃ j : Nat, j ≤ l.length ∧ v15 = .int .i64 j ∧ ∃ nq, wr = w5.drewN nq) (fun v15 _ => l.length - (intOf v15).toNat)
      case atStart => exact ⟨0, by omega, rfl, 0, rfl⟩
      case round =>
        obtain ⟨j, hj, rfl, nq, rfl⟩ := hrel
        by_cases hjl : j < l.length
        · have hdj := decide_eq_true (p := j < l.length) hjl
          have hjm : j < (shL i l).length := by simpa [shL] using hjl
          obtain ⟨lb, cl', he, _, _⟩ := HL5.out.form (by omega)
          simp only [Value.slice.injEq, true_and] at he
          obtain ⟨rfl, rfl⟩ := he
          obtain ⟨mb, cm', he, _, _⟩ := HM5.out.form (by omega)
          simp only [Value.slice.injEq, true_and] at he
          obtain ⟨rfl, rfl⟩ := he
          have hL := fun k => label_cells (w := w5.drewN k) (HL5.out) j hjl
          have hM := fun k => label_cells (w := w5.drewN k) (l := shL i l) (by rw [show (shL i l).length = l.length by simp [shL]]; exact HM5.out) j hjm
          rw [show (shL i l)[j]'hjm = ((l[j]'hjl).1, (l[j]'hjl).2 + (i : Int)) by simp [shL]] at hM
          have hsm := (assemble_small HAS.out).2.1 _ (List.getElem_mem hjl)
          generalize l[j]'hjl = x at hL hM hsm
          obtain ⟨nm, v⟩ := x
          simp only at hL hM hsm
          have hlb := row_len HL5.out
          have hwv : IntKind.i64.wrap (v + (i : Int)) = v + (i : Int) := IntWalk.i64_in _ (by omega)
          have hwj : IntKind.i64.wrap ((j : Int) + 1) = (j : Int) + 1 := IntWalk.i64_in _ (by omega)
          go_wp2_with fail
          go_quiet (fail)
          go_wp2_with fail
          go_roundw
          case rel => exact ⟨j + 1, by omega, by go_num, _, rfl⟩
          case measure => simp [intOf]; omega
        · have hdj := decide_eq_false (p := j < l.length) hjl
          go_wp2_with fail
          go_loopw [16] (fun v16 wr => ∃ j : Nat, j ≤ c.length ∧ v16 = .int .i64 j ∧ Hid (Below w5.heap.size w5 wr)) (fun v16 _ => c.length - (intOf v16).toNat)
          case atStart => exact ⟨0, by omega, rfl, bdrewN (Below.refl _ _) _⟩
          case round =>
            obtain ⟨j, hj, rfl, HBR⟩ := hrel
            by_cases hjc : j < c.length
            · have hdj := decide_eq_true (p := j < c.length) hjc
              have hgr : w5.grownBy wr none := ⟨HBR.out.os, HBR.out.tape, HBR.out.output, HBR.out.size, fun k hk _ => HBR.out.block k hk⟩
              obtain ⟨cb, cc', he, _, hcb⟩ := HC5.out.form (by omega)
              simp only [Value.slice.injEq, true_and] at he
              obtain ⟨rfl, rfl⟩ := he
              obtain ⟨db, cd', he, _, hdb⟩ := HD5.out.form (by rw [HDL2.out]; omega)
              simp only [Value.slice.injEq, true_and] at he
              obtain ⟨rfl, rfl⟩ := he
              obtain ⟨x, hx⟩ : ∃ x, c[j]'hjc = x := ⟨_, rfl⟩
              have hdl : i + j < d.length := by rw [HD2.out]; omega
              obtain ⟨y, hy⟩ : ∃ y, d[i + j]'hdl = y := ⟨_, rfl⟩
              have hxy := HD3.out j hjc
              rw [show d.getD (i + j) default = y by simp [List.getD, hdl, hy], show c.getD j default = x by simp [List.getD, hjc, hx]] at hxy
              have hsm := (assemble_small HAS.out).1 x (hx ▸ List.getElem_mem hjc)
              have hX := code_cells rfl (HC5.out.kept hgr (own_or _)) j x (by rw [List.getElem?_eq_getElem hjc, hx])
              have hY := code_cells HDL.out (HD5.out.kept hgr (own_or _)) (i + j) y (by rw [List.getElem?_eq_getElem hdl, hy])
              have hY' := fun o => code_cells HDL.out ((HD5.out.kept hgr (own_or _)).alloc o) (i + j) y (by rw [List.getElem?_eq_getElem hdl, hy])
              have hid1 : i + j < dl := by rw [HDL2.out]; omega
              have hwj : IntKind.i64.wrap ((j : Int) + 1) = (j : Int) + 1 := IntWalk.i64_in _ (by omega)
              have hwij : IntKind.i64.wrap ((i : Int) + (j : Int)) = (i : Int) + (j : Int) := IntWalk.i64_in _ (by omega)
              have HXY := Lib.hid hxy
              clear hxy hgr hx hy
              obtain ⟨op, ia, ib, ic, nn⟩ := x
              by_cases hgo : 8 ≤ op ∧ op ≤ 12
              · have hop : op = 8 ∨ op = 9 ∨ op = 10 ∨ op = 11 ∨ op = 12 := by omega
                have hy := HXY.out
                rw [if_pos hgo] at hy
                subst hy
                have hwn : IntKind.i64.wrap (nn + (i : Int)) = nn + (i : Int) := IntWalk.i64_in _ (by have h : -1000000000000000000 ≤ nn ∧ nn ≤ 1000000000000000000 := hsm; omega)
                simp only [up1] at hY hY'
                clear HXY hgo
                rcases hop with rfl | rfl | rfl | rfl | rfl
                all_goals
                  go_wp2_with fail
                  go_roundw
                  case rel => exact ⟨j + 1, by omega, by go_num, (HBR.out.alloc HBR.out.size _).alloc (by have := HBR.out.size; simp; omega) _⟩
                  case measure => simp [intOf]; omega
              · have h8 : (op == 8) = false := by rw [beq_eq_false_iff_ne]; omega
                have h9 : (op == 9) = false := by rw [beq_eq_false_iff_ne]; omega
                have h10 : (op == 10) = false := by rw [beq_eq_false_iff_ne]; omega
                have h11 : (op == 11) = false := by rw [beq_eq_false_iff_ne]; omega
                have h12 : (op == 12) = false := by rw [beq_eq_false_iff_ne]; omega
                have hy := HXY.out
                rw [if_neg hgo] at hy
                subst hy
                clear HXY hgo
                go_wp2_with fail
                go_roundw
                case rel => exact ⟨j + 1, by omega, by go_num, (HBR.out.alloc HBR.out.size _).alloc (by have := HBR.out.size; simp; omega) _⟩
                case measure => simp [intOf]; omega
            · have hdj := decide_eq_false (p := j < c.length) hjc
              go_wp2
              go_ret
              exact ⟨rfl, HB5.out.trans (HBR.out.mono HB5.out.size)⟩

end Go.Proofs.YtnlpekhohakkbaaGreatDoor
