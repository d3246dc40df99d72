/- The walks of tholelaw08: up, Short. -/
import Derived.Test.YtnlpekhohakkbaaGreatDoorAsm6
import Derived.Test.YtnlpekhohakkbaaGreatDoorErrIs
namespace Go.Proofs.YtnlpekhohakkbaaGreatDoor
open Go.RowKit Thole

theorem asm_up1 : assemble [[97, 58, 10, 106, 109, 112, 32, 97]] = .ok ([⟨8, 0, 0, 0, 0⟩], [([97], 0)]) := by kernel_rfl
theorem asm_up2 : assemble [[106, 109, 112, 32, 98]] = .error (4, 0) := by kernel_rfl

theorem strsAt_new (w : World) (t : TypeId) (ts : List Bytes) : StrsAt (w.alloc (.cells (strs ts) t)) (some ⟨w.heap.size, 0, none⟩) ts := fun i hi =>
  ⟨w.heap.size, 0, rfl, by simp, by rw [Nat.zero_add]; exact strs_cell (Blk.new w t (strs ts)) i hi⟩

/-- an assembly of texts that are known -/
theorem assemble_row (texts : List Bytes) (w : World) (t : TypeId) (cap : Nat) (hsh : w.ShapedOpen Tryz.prog) (hz : ∀ s ∈ texts, s.length < 4294967281) (hn : (allLines texts).length < 1099511627776) (htn : texts.length < 1099511627776) :
    Calls Tryz.prog 17 #[.slice (some ⟨w.heap.size, 0, none⟩) texts.length cap] (w.alloc (.cells (strs texts) t)) (AsmRes texts (w.alloc (.cells (strs texts) t))) :=
  assemble_any texts _ cap _ (shaped_below hsh ((Below.refl w.heap.size w).alloc (Nat.le_refl _) _)) (strsAt_new w t texts) hz hn htn

set_option maxRecDepth 100000 in
set_option maxHeartbeats 1000000 in
theorem up_true (w : World) (hsh : w.ShapedOpen Tryz.prog) (hg : Handle w) :
    Calls Tryz.prog 15 #[] w fun e w' => e = .returned (.bool true) ∧ Below w.heap.size w w' := by
  have HS := Lib.hid hsh
  have HG := Lib.hid hg
  clear hsh hg
  go_enter Tryz.func15, Tryz.ntmps15
  go_wp2_with fail
  refine (assemble_row [[97, 58, 10, 106, 109, 112, 32, 97]] w 9 1 HS.out (by decide) (by decide) (by decide)).mono ?_
  rintro e w1 ⟨hb1, hr⟩
  rw [asm_up1] at hr
  obtain ⟨cv, lv, rfl, hc, hl⟩ := hr
  have HB1 : Hid (Below w.heap.size w w1) := ((Below.refl w.heap.size w).alloc (Nat.le_refl _) _).trans (hb1.mono (by simp))
  have HC := Lib.hid hc
  have HL := Lib.hid hl
  clear hb1 hc hl
  obtain ⟨cb, cc, rfl, _, hcb⟩ := HC.out.form (by decide)
  obtain ⟨lb, lc, rfl, _, hlb⟩ := HL.out.form (by decide)
  go_wp2_with fail
  refine (assemble_row [[106, 109, 112, 32, 98]] w1 9 1 (shaped_below HS.out HB1.out) (by decide) (by decide) (by decide)).mono ?_
  rintro e w2 ⟨hb2, hr⟩
  rw [asm_up2] at hr
  obtain ⟨b, rfl, hbk, _⟩ := hr
  have hB2 : Below w1.heap.size w1 w2 := ((Below.refl w1.heap.size w1).alloc (Nat.le_refl _) _).trans (hb2.mono (by simp))
  have HBW : Hid (Below w.heap.size w w2) := HB1.out.trans (hB2.mono HB1.out.size)
  have HBK := Lib.hid hbk
  have hcell : ∀ j, w2.cell? ⟨cb, j, none⟩ = w1.cell? ⟨cb, j, none⟩ := fun j => World.cell?_of_block (hB2.block cb hcb)
  have c0 := (hcell 0).trans (HC.out.cellAt 0 (by decide))
  have c1 := (hcell 1).trans (HC.out.cellAt 1 (by decide))
  have c2 := (hcell 2).trans (HC.out.cellAt 2 (by decide))
  have c3 := (hcell 3).trans (HC.out.cellAt 3 (by decide))
  have c4 := (hcell 4).trans (HC.out.cellAt 4 (by decide))
  simp only [List.flatMap_cons, List.flatMap_nil, insVals, List.append_nil, List.getElem?_cons_zero, List.getElem?_cons_succ] at c0 c1 c2 c3 c4
  clear hb2 hbk hB2 hcell
  go_wp2_with fail
  refine (is_told b 0 4 _ (HG.out.below HBW.out) HBK.out).mono ?_
  rintro e w3 ⟨rfl, hb3⟩
  have HB3 : Hid (Below w.heap.size w w3) := HBW.out.trans (hb3.mono HBW.out.size)
  clear hb3
  go_wp2
  go_ret
  exact ⟨rfl, HB3.out⟩

def sumLen (texts : List Bytes) : Nat := (texts.map List.length).sum
/-- are texts few, and short? -/
def shortP (texts : List Bytes) : Bool := decide (texts.length ≤ 40) && texts.all (fun s => decide (s.length ≤ 30000)) && decide (sumLen texts ≤ 30000)

theorem sumLen_take {texts : List Bytes} {i : Nat} (h : i < texts.length) : sumLen (texts.take (i + 1)) = sumLen (texts.take i) + (texts[i]'h).length := by
  unfold sumLen
  rw [List.take_succ_eq_append_getElem h, List.map_append, List.sum_append]
  simp

/-- what Short hands back -/
def ShortRes (texts : List Bytes) (w : World) (e : Ending) (w' : World) : Prop := e = .returned (.bool (shortP texts)) ∧ w = w'
/-- the first texts are short, and have so many bytes -/
def ShortAt (texts : List Bytes) (i n : Nat) : Prop := (∀ j (h : j < texts.length), j < i → (texts[j]'h).length ≤ 30000) ∧ n = sumLen (texts.take i)

theorem short_no {texts : List Bytes} {i : Nat} (h : i < texts.length) (hl : 30000 < (texts[i]'h).length) : shortP texts = false := by
  cases hs : shortP texts
  · rfl
  · exfalso
    unfold shortP at hs
    simp only [Bool.and_eq_true, List.all_eq_true, decide_eq_true_eq] at hs
    have := hs.1.2 _ (List.getElem_mem h)
    omega

set_option maxHeartbeats 1000000 in
theorem short_any (texts : List Bytes) (p : Option Addr) (cap : Nat) (w : World) (ht : StrsAt w p texts) (hl : ∀ s ∈ texts, s.length ≤ 140737488355328) :
    Calls Tryz.prog 16 #[.slice p texts.length cap] w (ShortRes texts w) := by
  have HT := Lib.hid ht
  have HL := Lib.hid hl
  obtain ⟨m, hm⟩ : ∃ m, texts.length = m := ⟨_, rfl⟩
  rw [hm]
  have HM := Lib.hid hm
  clear hm ht hl
  by_cases h40 : m ≤ 40
  · have hd40 : decide ((40 : Int) < (m : Int)) = false := decide_eq_false (by omega)
    go_enter Tryz.func16, Tryz.ntmps16
    go_wp2_with fail
    go_loopw [3, 4] (fun v3 v4 wr => ∃ i n : Nat, i ≤ m ∧ v4 = .int .i64 i ∧ v3 = .int .i64 n ∧ n ≤ i * 30000 ∧ Hid (ShortAt texts i n) ∧ w = wr) (fun _ v4 _ => m - (intOf v4).toNat)
    case atStart => exact ⟨0, 0, by omega, rfl, rfl, by omega, ⟨fun _ _ h => by omega, rfl⟩, rfl⟩
    case round =>
      obtain ⟨i, n, hi, rfl, rfl, hn, HS, rfl⟩ := hrel
      by_cases hlt : i < m
      · have hd := decide_eq_true (p := i < m) hlt
        have hltx : i < texts.length := by rw [HM.out]; exact hlt
        obtain ⟨tb, o, rfl, htb, hc⟩ := HT.out i hltx
        obtain ⟨t, htt⟩ : ∃ t, texts[i]'hltx = t := ⟨_, rfl⟩
        rw [htt] at hc
        have HTT := Lib.hid htt
        have hbig : t.length ≤ 140737488355328 := HL.out t (htt ▸ List.getElem_mem _)
        clear htt
        by_cases h3 : t.length ≤ 30000
        · have hdt : decide ((30000 : Int) < (t.length : Int)) = false := decide_eq_false (by omega)
          have hwn : IntKind.i64.wrap ((n : Int) + (t.length : Int)) = (n : Int) + (t.length : Int) := IntWalk.i64_in _ (by omega)
          have hwi : IntKind.i64.wrap ((i : Int) + 1) = (i : Int) + 1 := IntWalk.i64_in _ (by omega)
          have HS2 : Hid (ShortAt texts (i + 1) (n + t.length)) := by
            refine ⟨fun j hj hji => ?_, by rw [sumLen_take hltx, HTT.out, HS.out.2]⟩
            by_cases e : j = i
            · subst e
              rw [HTT.out]
              exact h3
            · exact HS.out.1 j hj (by omega)
          go_wp2
          go_roundw
          case rel => exact ⟨i + 1, n + t.length, by omega, by go_num, by go_num, by omega, HS2.out, trivial⟩
          case measure => simp [intOf]; omega
        · have hdt : decide ((30000 : Int) < (t.length : Int)) = true := decide_eq_true (by omega)
          have HN := Lib.hid (short_no hltx (by rw [HTT.out]; omega))
          go_wp2
          go_ret
          exact ⟨by rw [HN.out]; rfl, rfl⟩
      · have hd := decide_eq_false (p := i < m) hlt
        have HE : Hid (shortP texts = decide (n ≤ 30000)) := by
          have h2 := HS.out.2
          rw [List.take_of_length_le (by rw [HM.out]; omega)] at h2
          have hall : texts.all (fun s => decide (s.length ≤ 30000)) = true := by
            rw [List.all_eq_true]
            intro x hx
            obtain ⟨j, hj, rfl⟩ := List.getElem_of_mem hx
            exact decide_eq_true (HS.out.1 j hj (by have := HM.out; omega))
          unfold Hid shortP
          rw [hall, HM.out, decide_eq_true h40, h2]
          rfl
        go_wp2
        go_ret
        refine ⟨?_, rfl⟩
        rw [HE.out]
        show Ending.returned (.bool (decide ((n : Int) ≤ 30000))) = _
        rw [decide_eq_decide.2 (by omega : (n : Int) ≤ 30000 ↔ n ≤ 30000)]
  · have hd40 : decide ((40 : Int) < (m : Int)) = true := decide_eq_true (by omega)
    have HE : Hid (shortP texts = false) := by
      unfold Hid shortP
      rw [HM.out, decide_eq_false h40]
      rfl
    go_enter Tryz.func16, Tryz.ntmps16
    go_wp2
    go_ret
    exact ⟨by rw [HE.out]; rfl, rfl⟩

end Go.Proofs.YtnlpekhohakkbaaGreatDoor
