/- The walk of asm.Assemble. -/
import Derived.Test.YtnlpekhohakkbaaGreatDoorAsm5
import Derived.Deep.LoopGhost
import Derived.Carry
namespace Go.Proofs.YtnlpekhohakkbaaGreatDoor
open Go.RowKit Thole

/-- so many goings have been led -/
def GoesAt (w0 : World) (g mb : Nat) (a : Asm) (cv lv : Value) (pg : Option Addr) (cg k : Nat) (w : World) : Prop :=
  ∃ code, code.length = a.code.length ∧ AsmAt w0.heap.size w g { a with code := code } a.labels cv lv (.slice pg a.gone.length cg) mb ∧ Below w0.heap.size w0 w ∧ goes a.labels a.code a.gone = goes a.labels code (a.gone.drop k)

theorem gone_cells {base : Nat} {w : World} {gb cg : Nat} {l : List (Int × Int × Bytes)} (h : w.ownsRow base 108 3 (.slice (some ⟨gb, 0, none⟩) l.length cg) l.length (l.flatMap goneVals)) (k : Nat) (hk : k < l.length) :
    w.cell? ⟨gb, k * 3, none⟩ = some (.int .i64 (l[k]'hk).1) ∧ w.cell? ⟨gb, k * 3 + 1, none⟩ = some (.int .i64 (l[k]'hk).2.1) ∧ w.cell? ⟨gb, k * 3 + 2, none⟩ = some (.string ⟨(l[k]'hk).2.2.toArray⟩) := by
  have hf : ∀ x, (goneVals x).length = 3 := fun _ => rfl
  have g0 := h.cellAt (k * 3 + 0) (by omega)
  have g1 := h.cellAt (k * 3 + 1) (by omega)
  have g2 := h.cellAt (k * 3 + 2) (by omega)
  rw [flat_get hf l k hk _ (by omega)] at g0 g1 g2
  exact ⟨g0, g1, g2⟩

/-- a number has been stored into an instruction -/
theorem AsmAt.put_n {base : Nat} {w : World} {g : Nat} {a : Asm} {pl : List (Bytes × Int)} {lv gv : Value} {mb cb cc : Nat} (h : AsmAt base w g a pl (.slice (some ⟨cb, 0, none⟩) a.code.length cc) lv gv mb) {k : Nat} (hk : k < a.code.length) (v : Int) :
    AsmAt base (w.setCell ⟨cb, k * 5 + 4, none⟩ (.int .i64 v)) g { a with code := a.code.set k { a.code.getD k default with n := v } } pl (.slice (some ⟨cb, 0, none⟩) a.code.length cc) lv gv mb ∧ Chg (fun b => b = cb) w (w.setCell ⟨cb, k * 5 + 4, none⟩ (.int .i64 v)) := by
  have hf : ∀ x, (insVals x).length = 5 := fun _ => rfl
  obtain ⟨hc, hS⟩ := h.code.stored (k * 5 + 4) (.int .i64 v)
  have hget : a.code.getD k default = a.code[k]'hk := by simp [List.getD, hk]
  rw [flat_set hf _ { a.code.getD k default with n := v } 4 (by omega) a.code k hk (by rw [hget]; rfl)] at hc
  have hB := h.blk
  refine ⟨⟨h.blk.far (by have := row_ne h.code hB (by decide); simpa [Value.ownBlock] using Ne.symm (fun e => this (by rw [e]; rfl))) _, h.lo, by simpa using hc, h.labels.kept hS (row_apart h.labels h.code (by decide)), h.gone.kept hS (row_apart h.gone h.code (by decide)), h.map.same (hS.block _ h.map.lt (Ne.symm (row_ne_map h.code h.map))), h.lom⟩, (Chg.refl (fun b => b = cb) w).setCell (p := ⟨cb, k * 5 + 4, none⟩) (.inl rfl) _⟩

theorem assemble_goes {texts : List Bytes} {a : Asm} (h : linesP ⟨[], [], []⟩ 0 (allLines texts) = .ok a) :
    assemble texts = match goes a.labels a.code a.gone with | .error e => .error e | .ok code => .ok (code, a.labels) := by
  unfold assemble
  rw [h]
  rfl
theorem code_cell {base : Nat} {w : World} {g : Nat} {a : Asm} {code : List Ins} {pl : List (Bytes × Int)} {lv gv : Value} {mb cb cc : Nat} (hcl : code.length = a.code.length) (h : AsmAt base w g { a with code := code } pl (.slice (some ⟨cb, 0, none⟩) a.code.length cc) lv gv mb) {k : Nat} (hk : k < code.length) (v : Int) :
    (∃ u, w.cell? ⟨cb, k * 5 + 4, none⟩ = some u) ∧ w.frozen? ⟨cb, k * 5 + 4, none⟩ = false ∧
    AsmAt base (w.setCell ⟨cb, k * 5 + 4, none⟩ (.int .i64 v)) g { a with code := code.set k { code.getD k default with n := v } } pl (.slice (some ⟨cb, 0, none⟩) a.code.length cc) lv gv mb ∧ Chg (fun b => b = cb) w (w.setCell ⟨cb, k * 5 + 4, none⟩ (.int .i64 v)) := by
  have hf : ∀ x, (insVals x).length = 5 := fun _ => rfl
  rw [← hcl] at h ⊢
  have hc := h.code.cellAt (k * 5 + 4) (by show k * 5 + 4 < code.length * 5; omega)
  refine ⟨⟨_, hc.trans (flat_get hf code k hk 4 (by omega))⟩, h.code.frozenAt _, ?_⟩
  exact AsmAt.put_n (a := { a with code := code }) h hk v

set_option maxRecDepth 100000 in
set_option maxHeartbeats 4000000 in
theorem assemble_any (texts : List Bytes) (p : Option Addr) (cap : Nat) (w : World) (hsh : w.ShapedOpen Tryz.prog) (ht : StrsAt w p texts) (hz : ∀ s ∈ texts, s.length < 4294967281) (hn : (allLines texts).length < 1099511627776) (htn : texts.length < 1099511627776) :
    Calls Tryz.prog 17 #[.slice p texts.length cap] w (AsmRes texts w) := by
  have HT := Lib.hid ht
  have HZ := Lib.hid hz
  clear ht hz
  obtain ⟨m, hm⟩ : ∃ m, texts.length = m := ⟨_, rfl⟩
  rw [hm] at htn ⊢
  have HM := Lib.hid hm
  clear hm
  have HS := Lib.hid (LinesAt.start w texts)
  have hmk := run_makeMap (P := Tryz.prog) 98 w
  go_enter Tryz.func17, Tryz.ntmps17
  go_wp2_with fail
  go_loopw [6, 21] (fun v6 v21 wr => ∃ i : Nat, i ≤ m ∧ v21 = .int .i64 i ∧ ∃ nn : Nat, v6 = .int .i64 nn ∧ nn < 1099511627776 ∧ Hid (LinesAt w texts (w.heap.size + 1) w.heap.size nn (allLines (texts.drop i)) wr)) (fun _ v21 _ => m - (intOf v21).toNat)
  case atStart => exact ⟨0, by omega, rfl, 0, rfl, by omega, HS.out⟩
  case round =>
    obtain ⟨i, hi, rfl, nn, rfl, hnn, HL⟩ := hrel
    by_cases hlt : i < m
    · have hd := decide_eq_true (p := i < m) hlt
      have hwr : Below w.heap.size w wr := by obtain ⟨_, _, _, _, _, _, h, _⟩ := HL.out; exact h
      have hltx : i < texts.length := by rw [HM.out]; exact hlt
      obtain ⟨tb, o, rfl, htb, hc⟩ := (HT.out.below hwr) i hltx
      obtain ⟨t, htt⟩ : ∃ t, texts[i]'hltx = t := ⟨_, rfl⟩
      rw [htt] at hc
      have hsz : t.length < 4294967281 := HZ.out t (htt ▸ List.getElem_mem _)
      have HLL : Hid (LinesAt w texts (w.heap.size + 1) w.heap.size nn (splitOn' 10 t ++ allLines (texts.drop (i + 1))) wr) := by
        have := allLines_drop hltx
        rw [htt] at this
        rw [← this]
        exact HL
      have HSH : Hid (wr.ShapedOpen Tryz.prog) := shaped_below hsh hwr
      have HW := Lib.hid hwr
      clear htt hwr HL
      go_wp2_with fail
      refine (split_one 10 ⟨t.toArray⟩ _ (by show t.toArray.size < _; rw [List.size_toArray]; exact hsz) HSH.out).mono ?_
      rintro e w' ⟨rfl, rfl⟩
      rw [show ((⟨t.toArray⟩ : ByteArray).data.toList) = t from rfl]
      have hmem : ∀ x ∈ splitOn' 10 t, x.length < 4294967281 := fun x hx => Nat.lt_of_le_of_lt (splitOn'_mem 10 t x hx) hsz
      generalize splitOn' 10 t = ls at hmem HLL ⊢
      have HME := Lib.hid hmem
      clear hmem
      obtain ⟨q, hq⟩ : ∃ q, ls.length = q := ⟨_, rfl⟩
      rw [hq]
      have HQ := Lib.hid hq
      clear hq
      have HB := Lib.hid (Blk.new wr 9 (strs ls))
      have HLS := Lib.hid (HLL.out.below (Below.alloc (Below.refl wr.heap.size wr) (Nat.le_refl _) (.cells (strs ls) 9)))
      have HWL := Lib.hid (Below.alloc HW.out HW.out.size (.cells (strs ls) 9))
      clear HLL HW hc
      go_wp2_with fail
      have hlb : wr.heap.size < (wr.alloc (.cells (strs ls) 9)).heap.size := by simp
      have hqb : q < 1099511627776 := by
        obtain ⟨_, _, _, _, _, _, _, _, h⟩ := HLS.out
        rw [List.length_append, HQ.out] at h
        omega
      generalize wr.alloc (.cells (strs ls) 9) = wo at HB HLS HWL hlb ⊢
      generalize wr.heap.size = lb at HB hlb ⊢
      go_loopw [6, 28] (fun v6 v28 wr => ∃ j : Nat, j ≤ q ∧ v28 = .int .i64 j ∧ ∃ nn : Nat, v6 = .int .i64 nn ∧ nn < 1099511627776 ∧ Hid (Blk wr lb 9 (strs ls)) ∧ Hid (LinesAt w texts (w.heap.size + 1) w.heap.size nn (ls.drop j ++ allLines (texts.drop (i + 1))) wr)) (fun _ v28 _ => q - (intOf v28).toNat)
      case atStart => exact ⟨0, by omega, rfl, nn, rfl, hnn, HB.out, HLS.out⟩
      case round =>
        obtain ⟨j, hj, rfl, nn, rfl, hnn, HBL, HLN⟩ := hrel
        by_cases hjq : j < q
        · have hjl : j < ls.length := by rw [HQ.out]; exact hjq
          have hcx := strs_cell HBL.out j hjl
          obtain ⟨a, cv, lv, gv, hA, hO, hBw, hL, hC⟩ := HLN.out
          have hdr : ls.drop j ++ allLines (texts.drop (i + 1)) = (ls[j]'hjl) :: (ls.drop (j + 1) ++ allLines (texts.drop (i + 1))) := by rw [List.drop_eq_getElem_cons hjl]; rfl
          rw [hdr] at hL hC
          have hxm : (ls[j]'hjl).length < 4294967281 := HME.out _ (List.getElem_mem _)
          generalize ls[j]'hjl = x at hcx hL hC hxm
          have hnn2 : nn + 1 < 1099511627776 := by rw [List.length_cons] at hC; omega
          have hwn : IntKind.i64.wrap ((nn : Int) + 1) = (nn : Int) + 1 := IntWalk.i64_in _ (by omega)
          have hwj : IntKind.i64.wrap ((j : Int) + 1) = (j : Int) + 1 := IntWalk.i64_in _ (by omega)
          have HA := Lib.hid hA
          have HO := Lib.hid hO
          have HW := Lib.hid hBw
          have HLI := Lib.hid hL
          have HC := Lib.hid hC
          clear hA hO hBw hL hC hdr HLN
          go_wp2_with fail
          refine (line_any w.heap.size (w.heap.size + 1) w.heap.size a cv lv gv ⟨x.toArray⟩ nn wr HW.out.size HA.out (by show x.toArray.size < _; rw [List.size_toArray]; exact hxm) (shaped_below hsh HW.out) HO.out hnn).mono ?_
          rintro e w2 ⟨hc2, hm2⟩
          have hb2 : Below w.heap.size wr w2 := hc2.below HW.out.size HA.out.foot
          have hbl2 := Lib.hid (HBL.out.chg hc2 (HA.out.apart HBL.out))
          clear hc2
          rw [show (⟨x.toArray⟩ : ByteArray).data.toList = x from rfl] at hm2
          cases hlp : lineP a x nn with
          | error c =>
            rw [hlp] at hm2
            simp only [codeV] at hm2
            obtain rfl := hm2
            have HR : Hid (assemble texts = .error (c, (nn : Int))) := by
              unfold Hid assemble
              rw [HLI.out, linesP_error hlp]
            have HB2 := Lib.hid (HW.out.trans hb2)
            have HN := Lib.hid (Blk.new w2 106 #[.int .i64 nn, codeV c])
            clear hlp hb2 hcx
            go_wp2
            go_ret3
            refine ⟨HB2.out.alloc HB2.out.size _, ?_⟩
            rw [HR.out]
            exact ⟨w2.heap.size, rfl, HN.out, HB2.out.size⟩
          | ok b =>
            rw [hlp] at hm2
            obtain ⟨rfl, cv', lv', gv', hA'⟩ := hm2
            have HLN : Hid (LinesAt w texts (w.heap.size + 1) w.heap.size (nn + 1) (ls.drop (j + 1) ++ allLines (texts.drop (i + 1))) w2) :=
              ⟨b, cv', lv', gv', hA', lineP_ok HO.out hlp, HW.out.trans hb2, HLI.out.trans (linesP_ok hlp), by have := HC.out; rw [List.length_cons] at this; omega⟩
            clear hlp hA' hcx
            go_wp2
            go_roundw
            case rel => exact ⟨j + 1, by omega, by go_num, nn + 1, by go_num, hnn2, hbl2.out, HLN.out⟩
            case measure => simp [intOf]; omega
        · have HLN2 : Hid (LinesAt w texts (w.heap.size + 1) w.heap.size nn (allLines (texts.drop (i + 1))) wr) := by
            have := HLN.out
            rw [List.drop_eq_nil_of_le (by rw [HQ.out]; omega)] at this
            exact this
          go_wp2_with fail
          go_roundw
          case rel => exact ⟨i + 1, by omega, by go_num, nn, rfl, hnn, HLN2.out⟩
          case measure => simp [intOf]; omega
    · obtain ⟨a, cv, lv, gv, hA, hO, hBw, hL, hC⟩ := HL.out
      have hL2 : linesP ⟨[], [], []⟩ 0 (allLines texts) = .ok a := by
        rw [hL, List.drop_eq_nil_of_le (by rw [HM.out]; omega)]
        rfl
      obtain ⟨pg, cg, rfl⟩ := row_form hA.gone
      have c3 := hA.blk.cell 3
      simp only [List.getElem?_toArray, List.getElem?_cons_zero, List.getElem?_cons_succ] at c3
      have hgl : a.gone.length ≤ 1024 := Nat.le_trans hO.gone hO.code
      have HA := Lib.hid hA
      have HO := Lib.hid hO
      have HW := Lib.hid hBw
      have HLI := Lib.hid hL2
      clear hA hO hBw hL hC hL2 HL
      obtain ⟨q, hq⟩ : ∃ q, a.gone.length = q := ⟨_, rfl⟩
      rw [hq] at c3 hgl
      have HQ := Lib.hid hq
      clear hq
      go_wp2_with fail
      go_loopw [52] (fun v52 wr => ∃ k : Nat, k ≤ q ∧ v52 = .int .i64 k ∧ Hid (GoesAt w (w.heap.size + 1) w.heap.size a cv lv pg cg k wr)) (fun v52 _ => q - (intOf v52).toNat)
      case atStart => exact ⟨0, by omega, rfl, a.code, rfl, HA.out, HW.out, by rfl⟩
      case round =>
        obtain ⟨k, hk, rfl, HG⟩ := hrel
        by_cases hkq : k < q
        · have hd := decide_eq_true (p := k < q) hkq
          have hkl : k < a.gone.length := by rw [HQ.out]; exact hkq
          obtain ⟨code, hcl, hA, hB, hg⟩ := HG.out
          obtain ⟨gb, cg', he, hgb, hgb2⟩ := hA.gone.form (by show 0 < a.gone.length; omega)
          simp only [Value.slice.injEq, true_and] at he
          obtain ⟨rfl, rfl⟩ := he
          obtain ⟨x, hx⟩ : ∃ x, a.gone[k]'hkl = x := ⟨_, rfl⟩
          obtain ⟨at_, line, name⟩ := x
          have hxm : (at_, line, name) ∈ a.gone := hx ▸ List.getElem_mem hkl
          obtain ⟨an, hat, han⟩ := HO.out.goes _ hxm
          simp only at hat
          subst hat
          have hgc := gone_cells hA.gone k hkl
          simp only [hx] at hgc
          have hdr : a.gone.drop k = ((an : Int), line, name) :: a.gone.drop (k + 1) := by rw [List.drop_eq_getElem_cons hkl, hx]
          rw [hdr, goes] at hg
          have HA1 := Lib.hid hA
          have HB1 := Lib.hid hB
          have HGO := Lib.hid hg
          have HCL := Lib.hid hcl
          clear hA hB hg hdr hcl HG hx
          go_wp2_with fail
          have HNM : Hid (name.length ≤ maxLen) := Nat.le_trans (HO.out.names _ hxm) (by unfold maxLen; omega)
          have hB3 := Below.alloc (Below.refl wr.heap.size wr) (Nat.le_refl _) (.cells #[.int .i64 an, .int .i64 line, .string ⟨name.toArray⟩] 108)
          have HG3 := Lib.hid (Blk.new wr 108 #[.int .i64 an, .int .i64 line, .string ⟨name.toArray⟩])
          have HA3 := Lib.hid (HA1.out.below hB3)
          have HB3 := Lib.hid (HB1.out.trans (hB3.mono HB1.out.size))
          clear hB3 HA1 HB1 hgc c3 hxm HA
          generalize wr.alloc (.cells #[.int .i64 an, .int .i64 line, .string ⟨name.toArray⟩] 108) = w3 at HG3 HA3 HB3 ⊢
          generalize wr.heap.size = G at HG3 ⊢
          have c2 := HA3.out.blk.cell 2
          have d0 := HG3.out.cell 0
          have d1 := HG3.out.cell 1
          have d2 := HG3.out.cell 2
          simp only [List.getElem?_toArray, List.getElem?_cons_zero, List.getElem?_cons_succ] at c2 d0 d1 d2
          have hlook := fun k => (HA3.out.map.same (w' := w3.drewN k) rfl).look name HNM.out
          cases hpl : place a.labels name with
          | none =>
            rw [hpl] at hlook
            have HGO' : Hid (goes a.labels a.code a.gone = .error (4, line)) := by
              unfold Hid
              rw [HGO.out, hpl]
            simp only [Option.getD_none, Option.isSome_none] at hlook
            clear hpl
            go_quiet (fail)
            go_wp2_with fail
            have HBn := Lib.hid (bdrewN HB3.out nq)
            have d1' : (w3.drewN nq).cell? ⟨G, 1, none⟩ = some (.int .i64 line) := d1
            clear hlook d0 d1 d2 c2 HG3 HA3
            generalize w3.drewN nq = w4 at HBn d1' ⊢
            go_region_law (fail)
            all_goals
              have HN := Lib.hid (Blk.new w4.drew 106 #[.int .i64 line, codeV 4])
              go_wp2
              go_ret3
              refine ⟨HBn.out.drew.alloc HBn.out.size _, ?_⟩
              rw [assemble_goes HLI.out, HGO'.out]
              exact ⟨w4.heap.size, rfl, HN.out, HBn.out.size⟩
          | some v =>
            rw [hpl] at hlook
            have HGO' : Hid (goes a.labels a.code a.gone = goes a.labels (code.set an { code.getD an default with n := v }) (a.gone.drop (k + 1))) := by
              unfold Hid
              rw [HGO.out, hpl]
              simp
            simp only [Option.getD_some, Option.isSome_some] at hlook
            clear hpl
            go_quiet (fail)
            go_wp2_with fail
            have HA4 := Lib.hid (HA3.out.below (bdrewN (Below.refl _ w3) nq))
            have HB4 := Lib.hid (bdrewN HB3.out nq)
            have HG4 := Lib.hid (HG3.out.drewN nq)
            clear hlook d0 d1 d2 c2 HA3 HB3 HG3
            generalize w3.drewN nq = w4 at HA4 HB4 HG4 ⊢
            obtain ⟨cb, cc, he, hcb, hcb2⟩ := HA4.out.code.form (by show 0 < code.length; rw [HCL.out]; omega)
            simp only [HCL.out] at he
            subst he
            have hac : an < code.length := by rw [HCL.out]; exact han
            have c0 := HA4.out.blk.cell 0
            have d0 := HG4.out.cell 0
            simp only [List.getElem?_toArray, List.getElem?_cons_zero] at c0 d0
            obtain ⟨⟨u, hcn⟩, hfn, h5⟩ := code_cell HCL.out (HA4.out.below (Below.refl _ w4).drew) hac v
            have HA5 := Lib.hid h5.1
            have HB5 := Lib.hid h5.2
            clear h5
            go_still_tail 9, (by kernel_rfl)
            change wpList _ _ _ _ _ w4.drew
            go_wp2
            go_roundw
            case rel => exact ⟨k + 1, by omega, by go_num, code.set an { code.getD an default with n := v }, by rw [List.length_set]; exact HCL.out, HA5.out, HB4.out.drew.trans (HB5.out.below HB4.out.size (fun b e => by omega)), HGO'.out⟩
            case measure => simp [intOf]; omega
        · obtain ⟨code, hcl, hA, hB, hg⟩ := HG.out
          have hg2 : goes a.labels a.code a.gone = .ok code := by
            rw [hg, List.drop_eq_nil_of_le (by rw [HQ.out]; omega)]
            rfl
          have c0 := hA.blk.cell 0
          have c1 := hA.blk.cell 1
          simp only [List.getElem?_toArray, List.getElem?_cons_zero, List.getElem?_cons_succ] at c0 c1
          have HA1 := Lib.hid hA
          have HB1 := Lib.hid hB
          have HGO := Lib.hid hg2
          clear hA hB hg hcl hg2 c3 HG
          go_wp2_with fail
          go_quiet (fail)
          go_wp2
          go_ret3
          refine ⟨bdrewN HB1.out _, ?_⟩
          rw [assemble_goes HLI.out, HGO.out]
          exact ⟨_, _, rfl, HA1.out.code, HA1.out.labels⟩

end Go.Proofs.YtnlpekhohakkbaaGreatDoor
