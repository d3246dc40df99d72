/- The walk of ins.Parse: a line of words. -/
import Derived.Test.YtnlpekhohakkbaaGreatDoorParse
import Derived.Test.YtnlpekhohakkbaaGreatDoorPlainMoved
import Derived.Deep.LoopGhost
namespace Go.Proofs.YtnlpekhohakkbaaGreatDoor
open Go.RowKit Thole

theorem strs_cell {w : World} {b : Nat} {t : TypeId} {ws : List Bytes} (h : Blk w b t (strs ws)) (i : Nat) (hi : i < ws.length) : w.cell? ⟨b, i, none⟩ = some (.string ⟨(ws[i]'hi).toArray⟩) := by
  rw [h.cell i]
  simp [strs, hi]

theorem shape_cells {w : World} {b : Nat} (h : Blk w b 230 shapeCells) (k : Nat) (hk : k < 23) :
    w.cell? ⟨b, k * 2, none⟩ = some (.string ⟨(shapeAt k).1.toArray⟩) ∧ w.cell? ⟨b, k * 2 + 1, none⟩ = some (.string ⟨(shapeAt k).2.toArray⟩) := by
  rw [h.cell, h.cell]
  have : ∀ k, k < 23 → shapeCells[k * 2]? = some (.string ⟨(shapeAt k).1.toArray⟩) ∧ shapeCells[k * 2 + 1]? = some (.string ⟨(shapeAt k).2.toArray⟩) := by
    intro k hk
    have hk' : k = 0 ∨ k = 1 ∨ k = 2 ∨ k = 3 ∨ k = 4 ∨ k = 5 ∨ k = 6 ∨ k = 7 ∨ k = 8 ∨ k = 9 ∨ k = 10 ∨ k = 11 ∨ k = 12 ∨ k = 13 ∨ k = 14 ∨ k = 15 ∨ k = 16 ∨ k = 17 ∨ k = 18 ∨ k = 19 ∨ k = 20 ∨ k = 21 ∨ k = 22 := by omega
    rcases hk' with h | h | h | h | h | h | h | h | h | h | h | h | h | h | h | h | h | h | h | h | h | h | h <;> subst h <;> exact ⟨rfl, rfl⟩
  exact this k hk

theorem parse_next {ws : List Bytes} {k : Nat} (h : ∀ j, j < k → ¬ hit ws j) (hh : ¬ hit ws k) : ∀ j, j < k + 1 → ¬ hit ws j := by
  intro j hj
  by_cases e : j = k
  · subst e
    exact hh
  · exact h j (by omega)

/-- the world behind the making of the loop's variable and of the line -/
def world3 (wo : World) (nq k : Nat) (word has : Bytes) : World :=
  ((wo.alloc (.cells #[.string ⟨word.toArray⟩, .string ⟨has.toArray⟩] 230)).drewN nq).alloc (.cells (lineCells (opLine k)) 112)

theorem world3_facts {w w1 W2 wo : World} {ws : List Bytes} (nq k : Nat) (word has : Bytes) (hbw : Below w.heap.size w W2) (hl : Below W2.heap.size W2 wo) (hz2 : W2.heap.size = w1.heap.size + 2) (hz : w.heap.size < w1.heap.size)
    (h1 : Blk W2 w1.heap.size 9 (strs ws)) (hr : Blk W2 w.heap.size 112 (lineCells LineP.none)) :
    Blk (world3 wo nq k word has) (wo.heap.size + 1) 112 (lineCells (opLine k)) ∧ Blk (world3 wo nq k word has) wo.heap.size 230 #[.string ⟨word.toArray⟩, .string ⟨has.toArray⟩] ∧
      Blk (world3 wo nq k word has) w1.heap.size 9 (strs ws) ∧ Blk (world3 wo nq k word has) w.heap.size 112 (lineCells LineP.none) ∧ Below w.heap.size w (world3 wo nq k word has) ∧ w1.heap.size + 2 ≤ wo.heap.size := by
  have hs := hl.size
  rw [hz2] at hs
  refine ⟨?_, ?_, ?_, ?_, ?_, hs⟩
  · have := Blk.new ((wo.alloc (.cells #[.string ⟨word.toArray⟩, .string ⟨has.toArray⟩] 230)).drewN nq) 112 (lineCells (opLine k))
    have e : ((wo.alloc (.cells #[.string ⟨word.toArray⟩, .string ⟨has.toArray⟩] 230)).drewN nq).heap.size = wo.heap.size + 1 := by
      show (wo.heap.push _).size = _
      simp
    rw [e] at this
    exact this
  · exact ((Blk.new wo _ _).drewN _).alloc _
  · exact (((h1.below hl (by rw [hz2]; omega)).alloc _).drewN _).alloc _
  · exact (((hr.below hl (by rw [hz2]; omega)).alloc _).drewN _).alloc _
  · have h2 : Below w.heap.size w wo := hbw.trans (hl.mono (by rw [hz2]; omega))
    have h3 := bdrewN (h2.alloc h2.size (.cells #[.string ⟨word.toArray⟩, .string ⟨has.toArray⟩] 230)) nq
    exact h3.alloc h3.size _

/-- the inner loop's relation: i fields are read -/
def Inner (ws : List Bytes) (has : Bytes) (k : Nat) (wo W3 wr : World) (i : Nat) (li : LineP) : Prop :=
  Blk wr (wo.heap.size + 1) 112 (lineCells li) ∧ Chg (fun b => b = wo.heap.size + 1) W3 wr ∧ fieldsP (opLine k) has ws.tail = fieldsP li (has.drop i) (ws.tail.drop i)

theorem shape_kind {has : Bytes} (h : has.all (fun w => decide (w = 65) || decide (w = 66) || decide (w = 67) || decide (w = 78) || decide (w = 84)) = true) (i : Nat) (hi : i < has.length) :
    has[i] = 65 ∨ has[i] = 66 ∨ has[i] = 67 ∨ has[i] = 78 ∨ has[i] = 84 := by
  have := List.all_eq_true.1 h _ (List.getElem_mem hi)
  simp only [Bool.or_eq_true, decide_eq_true_eq] at this
  rcases this with (((h | h) | h) | h) | h <;> simp [h]

/-- a field is read: the line's fields are known, or none may be -/
theorem inner_next {ws : List Bytes} {has x : Bytes} {k : Nat} {wo W3 wr w2 : World} {i : Nat} {li l' : LineP} {b : Bool} {hi : i < has.length} (h : Inner ws has k wo W3 wr i li)
    (hx : ws.tail[i]? = some x) (hf : fieldP li (has[i]'hi) x = if b = true then some l' else none) (hb : Blk w2 (wo.heap.size + 1) 112 (lineCells l')) (hc : Chg (fun b => b = wo.heap.size + 1) wr w2) :
    Chg (fun b => b = wo.heap.size + 1) W3 w2 ∧ (if b = true then Inner ws has k wo W3 w2 (i + 1) l' else fieldsP (opLine k) has ws.tail = none) := by
  obtain ⟨h1, h2, h3⟩ := h
  obtain ⟨hl, hx⟩ := List.getElem?_eq_some_iff.1 hx
  rw [fieldsP_step li has ws.tail i hi hl, hx, hf] at h3
  refine ⟨h2.trans hc, ?_⟩
  cases b
  · exact h3
  · exact ⟨hb, h2.trans hc, h3⟩

theorem tail_at {ws : List Bytes} {i : Nat} {x : Bytes} {h : 1 + i < ws.length} (e : ws[1 + i]'h = x) : ws.tail[i]? = some x := by
  rw [List.getElem?_tail, show i + 1 = 1 + i by omega, List.getElem?_eq_getElem h, e]

theorem hit_of {ws : List Bytes} {k nl : Nat} {a : UInt8} {l has w0 : Bytes} {h0 : 0 < ws.length} (h1 : (shapeAt k).1 = a :: l) (h2 : (shapeAt k).2 = has) (h3 : ws[0]'h0 = w0) (h4 : a :: l = w0) (h5 : ws.length = nl) (h6 : (has.length : Int) = (nl : Int) - 1) : hit ws k := by
  refine ⟨by rw [h1]; simp, ?_, by rw [h2]; omega⟩
  rw [h1, h4, ← h3]
  cases ws with
  | nil => simp at h0
  | cons x y => rfl

theorem headD_zero {ws : List Bytes} (h : 1 ≤ ws.length) : ws.headD [] = ws[0]'h := by
  cases ws with
  | nil => simp at h
  | cons a l => rfl

set_option maxHeartbeats 2000000 in
theorem parse_D (s : ByteArray) (w : World) (hs : s.size < 4294967281) (hsh : w.ShapedOpen Tryz.prog) (c : UInt8) (r : Bytes) (h : trimV s = c :: r) (hc : ((c.toNat : Int) == 59) = false) (hl : isL (c :: r) = false) :
    Calls Tryz.prog 69 #[.string s] w fun e w' => ParseRes s e ∧ Below w.heap.size w w' := by
  have hle := trimV_le s
  rw [h] at hle
  have h0 : 0 < (⟨(c :: r).toArray⟩ : ByteArray).size := Nat.succ_pos _
  have hc' : ((((⟨(c :: r).toArray⟩ : ByteArray)[0]'h0).toNat : Int) == 59) = false := hc
  have HP := Lib.hid (parse_words h hc hl)
  go_enter Tryz.func69, Tryz.ntmps69
  go_wp2_with fail
  refine (trim_ws s _ (by omega)).mono ?_
  rintro e w1 ⟨rfl, hb1⟩
  rw [h]
  clear h
  obtain ⟨hB, hb⟩ := parse_begin hb1
  have HB := Lib.hid hb
  have HBk := Lib.hid hB
  have HSH : Hid (w1.ShapedOpen Tryz.prog) := shaped_below hsh hb
  clear hb1 hB hb hsh
  go_wp2_with fail
  refine (cutSuffix_colon (c :: r) _ (by omega)).mono ?_
  rintro e w' ⟨rfl, rfl⟩
  rw [hl]
  clear hl
  go_wp2_with fail
  refine (split_one 32 ⟨(c :: r).toArray⟩ _ (by show (c :: r).toArray.size < _; rw [List.size_toArray]; omega) HSH.out).mono ?_
  rintro e w' ⟨rfl, rfl⟩
  obtain ⟨ws, hws⟩ : ∃ ws, splitOn' 32 (c :: r) = ws := ⟨_, rfl⟩
  rw [show ((⟨(c :: r).toArray⟩ : ByteArray).data.toList) = c :: r from rfl, hws]
  rw [hws] at HP
  have hn : 1 ≤ ws.length := by
    have := splitOn'_length 32 (c :: r)
    rw [hws] at this
    omega
  have hnl : ws.length ≤ 4294967290 := by
    have := splitOn'_length 32 (c :: r)
    have h2 := count_le_length 32 (c :: r)
    rw [hws] at this
    omega
  have HW := Lib.hid hws
  clear hws
  obtain ⟨nl, hlen⟩ : ∃ nl, ws.length = nl := ⟨_, rfl⟩
  rw [hlen] at hn hnl ⊢
  have HLN := Lib.hid hlen
  clear hlen
  go_wp2_with fail
  refine (shapes_any _).mono ?_
  rintro e w' ⟨rfl, rfl⟩
  have hW := below_two HB.out (.cells (strs ws) 9) (.cells shapeCells 230)
  have HS1 : Hid (Blk ((w1.alloc (.cells (strs ws) 9)).alloc (.cells shapeCells 230)) w1.heap.size 9 (strs ws)) := (Blk.new w1 _ _).alloc _
  have HS2 : Hid (Blk ((w1.alloc (.cells (strs ws) 9)).alloc (.cells shapeCells 230)) (w1.heap.size + 1) 230 shapeCells) := by
    have := Blk.new (w1.alloc (.cells (strs ws) 9)) 230 shapeCells
    unfold Hid
    simpa using this
  have HR : Hid (Blk ((w1.alloc (.cells (strs ws) 9)).alloc (.cells shapeCells 230)) w.heap.size 112 (lineCells LineP.none)) := (HBk.out.alloc _).alloc _
  have hz : w.heap.size < w1.heap.size := HBk.out.lt
  have hz2 : ((w1.alloc (.cells (strs ws) 9)).alloc (.cells shapeCells 230)).heap.size = w1.heap.size + 2 := by simp
  have HBW := Lib.hid hW
  clear hW HBk HSH HB
  go_wp2_with fail
  generalize ((w1.alloc (.cells (strs ws) 9)).alloc (.cells shapeCells 230)) = W2 at *
  have HZ : Hid (W2.heap.size = w1.heap.size + 2) := hz2
  clear hz2
  go_loopw [39] (fun i wr => ∃ k : Nat, k ≤ 23 ∧ i = .int .i64 k ∧ Hid (∀ j, j < k → ¬ hit ws j) ∧ Hid (Below W2.heap.size W2 wr)) (fun i _ => 23 - (intOf i).toNat)
  case atStart => exact ⟨0, by omega, rfl, fun j hj => absurd hj (by omega), Below.refl _ _⟩
  case round =>
    obtain ⟨k, hk, rfl, HN, HL⟩ := hrel
    by_cases hlt : k < 23
    · have hd23 : decide ((k : Int) < 23) = true := decide_eq_true (by omega)
      have hs1 := strs_cell (HS1.out.below HL.out (by rw [HZ.out]; omega)) 0 (by rw [HLN.out]; exact hn)
      have hs2 := shape_cells (HS2.out.below HL.out (by rw [HZ.out]; omega)) k hlt
      obtain ⟨w0, hw0⟩ : ∃ w0, ws[0]'(by rw [HLN.out]; omega) = w0 := ⟨_, rfl⟩
      rw [hw0] at hs1
      obtain ⟨word, hword⟩ : ∃ word, (shapeAt k).1 = word := ⟨_, rfl⟩
      obtain ⟨has, hhas⟩ : ∃ has, (shapeAt k).2 = has := ⟨_, rfl⟩
      rw [hword, hhas] at hs2
      have HW0 := Lib.hid hw0
      have HWO := Lib.hid hword
      have HHA := Lib.hid hhas
      clear hw0 hword hhas
      have hn0 : 0 < nl := hn
      have hwr : IntKind.i64.wrap ((nl : Int) - 1) = (nl : Int) - 1 := IntWalk.i64_in _ (by omega)
      have hne : ¬ w1.heap.size = wr.heap.size := by have := HL.out.size; rw [HZ.out] at this; omega
      have hs1' : ∀ o, (wr.alloc o).cell? ⟨w1.heap.size, 0, none⟩ = some (.string ⟨w0.toArray⟩) := fun o => (World.cell?_alloc_lt wr o _ (by have := HL.out.size; rw [HZ.out] at this; show w1.heap.size < _; omega)).trans hs1
      have hlw : w1.heap.size + 2 ≤ wr.heap.size := by have := HL.out.size; rw [HZ.out] at this; exact this
      cases word with
      | nil =>
        have hh : ¬ hit ws k := fun h => h.1 HWO.out
        have HH := Lib.hid (parse_next HN.out hh)
        clear hh
        go_wp2_with fail
        go_quiet (fail)
        go_wp2_with fail
        go_roundw
        case rel => exact ⟨k + 1, by omega, by go_num, HH.out, bdrewN (HL.out.alloc HL.out.size _) _⟩
        case measure => simp [intOf]; omega
      | cons a l =>
        by_cases he : ((a :: l) == w0) = true
        · by_cases hL : (has.length : Int) = (nl : Int) - 1
          · have HE : Hid ((a :: l) = w0) := beq_iff_eq.1 he
            have HHL := Lib.hid hL
            have hd : ((has.length : Int) != (nl : Int) - 1) = false := by rw [bne_eq_false_iff_eq]; exact hL
            clear hL
            go_wp2_with fail
            go_quiet (fail)
            rcases (show 1 < nl ∨ nl = 1 by omega) with h1 | h1
            all_goals
              go_wp2_with fail
              obtain ⟨wo, rfl⟩ : ∃ wo : World, wo = wr := ⟨_, rfl⟩
              have hF3 := world3_facts (w := w) (w1 := w1) (W2 := W2) (wo := wo) (ws := ws) nq k (a :: l) has HBW.out HL.out HZ.out hz HS1.out HR.out
              have HF3 := Lib.hid hF3
              clear hs1 hs1' hs2 hF3 HBW HL HS1 HS2 HR
              go_loopw [70] (fun i wr => ∃ i' : Nat, i' ≤ nl - 1 ∧ i = .int .i64 i' ∧ ∃ li, Hid (Inner ws has k wo (world3 wo nq k (a :: l) has) wr i' li)) (fun i _ => nl - (intOf i).toNat)
              case atStart => exact ⟨0, by omega, rfl, opLine k, HF3.out.1, Chg.refl _ _, by rfl⟩
              case round =>
                obtain ⟨i, hi, rfl, li, HI⟩ := hrel
                by_cases hilt : i < nl - 1
                · by_cases hx1 : nl = 1
                  · exfalso; omega
                  · first
                    | exact absurd h1 hx1
                    | (have hc1 := strs_cell (HF3.out.2.2.1.chg HI.out.2.1 (by have := HF3.out.2.2.2.2.2; omega)) (1 + i) (by rw [HLN.out]; omega)
                       obtain ⟨x, hx⟩ : ∃ x, ws[1 + i]'(by rw [HLN.out]; omega) = x := ⟨_, rfl⟩
                       rw [hx] at hc1
                       have HX := Lib.hid hx
                       clear hx
                       have hc2 := (HF3.out.2.1.chg HI.out.2.1 (by omega)).cell 1
                       simp only [List.getElem?_toArray, List.getElem?_cons_succ, List.getElem?_cons_zero] at hc2
                       have hhl' : i < has.length := by have := HHL.out; omega
                       have hhl : i < (⟨has.toArray⟩ : ByteArray).size := by
                         show i < has.toArray.size
                         rw [List.size_toArray]
                         exact hhl'
                       have hxl : x.length ≤ 140737488355328 := by
                         have := splitOn'_mem 32 (c :: r) x (by rw [HW.out, ← HX.out]; exact List.getElem_mem _)
                         omega
                       go_wp2_with fail
                       refine (field_any (wo.heap.size + 1) li (has[i]'hhl') ⟨x.toArray⟩ _ (by show x.toArray.size ≤ _; rw [List.size_toArray]; exact hxl) HI.out.1 (shape_kind (HHA.out ▸ shape_has k hlt) i _)).mono ?_
                       rintro e w2 ⟨b, l', rfl, hb2, hf2, hch2⟩
                       have HI2 := Lib.hid (inner_next HI.out (tail_at HX.out) hf2 hb2 hch2)
                       clear hf2 hb2 hch2 hc1 hc2
                       cases b
                       · have hRr := HF3.out.2.2.2.1.chg HI2.out.1 (by have := HF3.out.2.2.2.2.2; omega)
                         have HP' : Hid (parseP s.data.toList = none) := by
                           unfold Hid
                           have h2 : fieldsP (opLine k) has ws.tail = none := HI2.out.2
                           rw [HP.out, parseWords_hit hlt (hit_of HWO.out HHA.out HW0.out HE.out HLN.out HHL.out), HHA.out, h2]
                         have hF := line_facts hRr
                         simp only [LineP.none] at hF
                         have HS := Lib.hid (set_line hRr LineP.none)
                         have HBB := Lib.hid (HF3.out.2.2.2.2.1.trans (HI2.out.1.below HF3.out.2.2.2.2.1.size (fun b e => by have := HF3.out.2.2.2.2.2; omega)))
                         clear hRr
                         go_wp2
                         refine bodyPost_ret (w := putLine w2 w.heap.size LineP.none) (results_line rfl rfl HS.out.1) rfl ?_
                         exact parse_done HBB.out HS.out.2 (by rw [HP'.out]; rfl) (by rw [HP'.out]; rfl)
                       · go_wp2
                         go_roundw
                         case rel => exact ⟨i + 1, by omega, by go_num, l', HI2.out.2⟩
                         case measure => simp [intOf]; omega)
                · have hEnd : Hid (fieldsP (opLine k) has ws.tail = some li) := by
                    unfold Hid
                    rw [HI.out.2.2]
                    exact fieldsP_end _ _ _ _ (by have := HHL.out; omega)
                  have hop := (fieldsP_op _ _ _ _ hEnd.out).1
                  have HOP : Hid (li.ins.op = (k : Int)) := hop
                  have hRr := HF3.out.2.2.2.1.chg HI.out.2.1 (by have := HF3.out.2.2.2.2.2; omega)
                  have hF := line_facts hRr
                  simp only [LineP.none] at hF
                  have hF9 := line_facts HI.out.1
                  have HBB := Lib.hid (HF3.out.2.2.2.2.1.trans (HI.out.2.1.below HF3.out.2.2.2.2.1.size (fun b e => by have := HF3.out.2.2.2.2.2; omega)))
                  have hnb : ¬ w.heap.size = wo.heap.size + 1 := by have := HF3.out.2.2.2.2.2; omega
                  by_cases hbad : k = 7 ∧ 13 < li.ins.a
                  · have HP' : Hid (parseP s.data.toList = none) := by
                      unfold Hid
                      rw [HP.out, parseWords_hit hlt (hit_of HWO.out HHA.out HW0.out HE.out HLN.out HHL.out), HHA.out, hEnd.out]
                      simp only
                      rw [if_pos ⟨by rw [hop, hbad.1]; rfl, hbad.2⟩]
                    have HS := Lib.hid (set_line hRr LineP.none)
                    have hk7 : ((k : Int) == 7) = true := by rw [hbad.1]; rfl
                    have h13 := hbad.2
                    clear hRr hop hbad hEnd
                    go_wp2
                    refine bodyPost_ret (w := putLine wr w.heap.size LineP.none) (results_line rfl rfl HS.out.1) rfl ?_
                    exact parse_done HBB.out HS.out.2 (by rw [HP'.out]; rfl) (by rw [HP'.out]; rfl)
                  · have HP' : Hid (parseP s.data.toList = some li) := by
                      unfold Hid
                      rw [HP.out, parseWords_hit hlt (hit_of HWO.out HHA.out HW0.out HE.out HLN.out HHL.out), HHA.out, hEnd.out]
                      simp only
                      rw [if_neg fun h => hbad ⟨by have := h.1; rw [HOP.out] at this; omega, h.2⟩]
                    have HS := Lib.hid (set_line hRr li)
                    clear hRr hop hEnd
                    by_cases hk7 : k = 7
                    · have h7 : ((k : Int) == 7) = true := by rw [hk7]; rfl
                      have h13 : decide (13 < li.ins.a) = false := decide_eq_false fun h => hbad ⟨hk7, h⟩
                      clear hk7 hbad
                      go_wp2
                      refine bodyPost_ret (w := putLine wr w.heap.size li) (results_line rfl rfl HS.out.1) rfl ?_
                      exact parse_done HBB.out HS.out.2 (by rw [HP'.out]; rfl) (by rw [HP'.out]; rfl)
                    · have h7 : ((k : Int) == 7) = false := by rw [beq_eq_false_iff_ne]; omega
                      clear hk7 hbad
                      go_wp2
                      refine bodyPost_ret (w := putLine wr w.heap.size li) (results_line rfl rfl HS.out.1) rfl ?_
                      exact parse_done HBB.out HS.out.2 (by rw [HP'.out]; rfl) (by rw [HP'.out]; rfl)
          · have hh : ¬ hit ws k := fun h => hL (by
              have h3 := h.2.2
              rw [HHA.out, HLN.out] at h3
              omega)
            have HH := Lib.hid (parse_next HN.out hh)
            have hd : ((has.length : Int) != (nl : Int) - 1) = true := by rw [bne_iff_ne]; exact hL
            clear hh hL
            go_wp2_with fail
            go_quiet (fail)
            go_wp2_with fail
            go_roundw
            case rel => exact ⟨k + 1, by omega, by go_num, HH.out, bdrewN (HL.out.alloc HL.out.size _) _⟩
            case measure => simp [intOf]; omega
        · have he : ((a :: l) == w0) = false := by simpa using he
          have hh : ¬ hit ws k := fun h => by
            have h2 := h.2.1
            rw [HWO.out, headD_zero (by rw [HLN.out]; exact hn), HW0.out] at h2
            rw [h2] at he
            simp at he
          have HH := Lib.hid (parse_next HN.out hh)
          clear hh
          have he' : ((a :: l) != w0) = true := by rw [bne, he]; rfl
          go_wp2_with fail
          go_quiet (fail)
          go_wp2_with fail
          go_roundw
          case rel => exact ⟨k + 1, by omega, by go_num, HH.out, bdrewN (HL.out.alloc HL.out.size _) _⟩
          case measure => simp [intOf]; omega
    · have HP' : Hid (parseP s.data.toList = none) := by
        unfold Hid
        rw [HP.out]
        exact parseWords_none fun j hj => HN.out j (by omega)
      have hRr := HR.out.below HL.out (by rw [HZ.out]; omega)
      have hF := line_facts hRr
      simp only [LineP.none] at hF
      have HS := Lib.hid (set_line hRr LineP.none)
      have HBB := Lib.hid (HBW.out.trans (HL.out.mono (by rw [HZ.out]; omega)))
      clear hRr
      go_wp2
      refine bodyPost_ret (w := putLine wr w.heap.size LineP.none) (results_line rfl rfl HS.out.1) rfl ?_
      exact parse_done HBB.out HS.out.2 (by rw [HP'.out]; rfl) (by rw [HP'.out]; rfl)

/-- ins.Parse, of every line. -/
theorem parse_any (s : ByteArray) (w : World) (hs : s.size < 4294967281) (hsh : w.ShapedOpen Tryz.prog) :
    Calls Tryz.prog 69 #[.string s] w fun e w' => ParseRes s e ∧ Below w.heap.size w w' := by
  cases h : trimV s with
  | nil => exact parse_A s w (by omega) h
  | cons c r =>
    cases hc : ((c.toNat : Int) == 59)
    · cases hl : isL (c :: r)
      · exact parse_D s w hs hsh c r h hc hl
      · exact parse_C s w (by omega) c r h hc hl
    · have e : c.toNat = 59 := by rw [beq_iff_eq] at hc; omega
      obtain rfl : c = 59 := toNat_inj e
      exact parse_B s w (by omega) r h

end Go.Proofs.YtnlpekhohakkbaaGreatDoor
