/- The walk of tholelaw08.AsmMoved. -/
import Derived.Test.YtnlpekhohakkbaaGreatDoorLaw8
import Derived.Test.YtnlpekhohakkbaaGreatDoorPlainBound
import Derived.Deep.DeepCutAuto
namespace Go.Proofs.YtnlpekhohakkbaaGreatDoor
open Go.RowKit Thole

theorem shortP_facts {texts : List Bytes} (h : shortP texts = true) : texts.length ≤ 40 ∧ (∀ s ∈ texts, s.length ≤ 30000) ∧ (allLines texts).length ≤ 1200040 := by
  unfold shortP at h
  simp only [Bool.and_eq_true, List.all_eq_true, decide_eq_true_eq] at h
  refine ⟨h.1.1, h.1.2, ?_⟩
  have key : ∀ l : List Bytes, (∀ s ∈ l, s.length ≤ 30000) → (allLines l).length ≤ l.length * 30001 := by
    intro l
    induction l with
    | nil => intro _; simp [allLines]
    | cons s l ih =>
      intro hs
      have h1 := ih fun x hx => hs x (.tail _ hx)
      have h2 := splitOn'_length 10 s
      have h3 := count_le_length 10 s
      have h4 := hs s (.head _)
      simp only [allLines, List.flatMap_cons, List.length_append, List.length_cons] at h1 ⊢
      omega
  exact Nat.le_trans (key texts h.1.2) (Nat.le_trans (Nat.mul_le_mul_right 30001 h.1.1) (by decide))

/-- what AsmMoved says of the texts, when they are short -/
def MovedRes (w : World) (e : Ending) (w' : World) : Prop := e = .returned (.bool true) ∧ Below w.heap.size w w'

set_option maxRecDepth 100000 in
set_option maxHeartbeats 1000000 in
/-- .. that are let go -/
theorem moved_go (texts : List Bytes) (p : Option Addr) (cap : Nat) (n : Int) (w : World) (hsh : w.ShapedOpen Tryz.prog) (hg : Handle w) (ht : StrsAt w p texts) (hl : ∀ s ∈ texts, s.length ≤ 140737488355328)
    (hgo : shortP texts = false ∨ n < 0 ∨ 50 < n) :
    Calls Tryz.prog 3 #[.slice p texts.length cap, .int .i64 n] w (MovedRes w) := by
  have HS := Lib.hid hsh
  have HG := Lib.hid hg
  have HT := Lib.hid ht
  have HL := Lib.hid hl
  clear hsh hg ht hl
  go_enter Tryz.func3, Tryz.ntmps3
  go_wp2_with fail
  refine (up_true w HS.out HG.out).mono ?_
  rintro e w1 ⟨rfl, hb1⟩
  have HB1 := Lib.hid hb1
  clear hb1
  go_wp2_with fail
  refine (short_any texts p cap w1 (HT.out.below HB1.out) HL.out).mono ?_
  rintro e w2 ⟨rfl, rfl⟩
  obtain ⟨sh, hs⟩ : ∃ b, shortP texts = b := ⟨_, rfl⟩
  rw [hs] at hgo ⊢
  clear hs
  cases sh
  · clear hgo
    go_wp2
    go_ret
    exact ⟨rfl, HB1.out⟩
  · by_cases hn : n < 0
    · have hd := decide_eq_true hn
      clear hgo hn
      go_wp2
      go_ret
      exact ⟨rfl, HB1.out⟩
    · have hn5 : 50 < n := by
        rcases hgo with h | h | h
        · cases h
        · exact absurd h hn
        · exact h
      have hd := decide_eq_false hn
      have hd5 := decide_eq_true hn5
      clear hgo hn hn5
      go_wp2
      go_ret
      exact ⟨rfl, HB1.out⟩

/-- when it is not to be shown: nothing is assembled, or too much -/
def Stops (texts : List Bytes) (n : Int) : Prop := match assemble texts with | .error _ => True | .ok (c, _) => 1024 < (c.length : Int) + n

set_option maxRecDepth 100000 in
set_option maxHeartbeats 1000000 in
theorem moved_stop (texts : List Bytes) (p : Option Addr) (cap : Nat) (n : Int) (w : World) (hsh : w.ShapedOpen Tryz.prog) (hg : Handle w) (ht : StrsAt w p texts)
    (hs : shortP texts = true) (h0 : 0 ≤ n) (h50 : n ≤ 50) (hst : Stops texts n) :
    Calls Tryz.prog 3 #[.slice p texts.length cap, .int .i64 n] w (MovedRes w) := by
  obtain ⟨hl1, hl2, hl3⟩ := shortP_facts hs
  have HS := Lib.hid hsh
  have HG := Lib.hid hg
  have HT := Lib.hid ht
  have HL := Lib.hid hl2
  have HSP := Lib.hid hs
  have HST := Lib.hid hst
  have hd0 : decide (n < 0) = false := decide_eq_false (by omega)
  have hd5 : decide (50 < n) = false := decide_eq_false (by omega)
  clear hsh hg ht hl2 hs hst
  go_enter Tryz.func3, Tryz.ntmps3
  go_wp2_with fail
  refine (up_true w HS.out HG.out).mono ?_
  rintro e w1 ⟨rfl, hb1⟩
  have HB1 := Lib.hid hb1
  clear hb1
  go_wp2_with fail
  refine (short_any texts p cap w1 (HT.out.below HB1.out) (fun s hs => Nat.le_trans (HL.out s hs) (by decide))).mono ?_
  rintro e w2 ⟨rfl, rfl⟩
  rw [HSP.out]
  go_wp2_with fail
  refine (assemble_any texts p cap w1 (shaped_below HS.out HB1.out) (HT.out.below HB1.out) (fun s hs => Nat.lt_of_le_of_lt (HL.out s hs) (by decide)) (by omega) (by omega)).mono ?_
  rintro e w2 ⟨hb2, hr⟩
  have HB2 : Hid (Below w.heap.size w w2) := HB1.out.trans (hb2.mono HB1.out.size)
  have hst := HST.out
  unfold Stops at hst
  cases ha : assemble texts with
  | error e =>
    obtain ⟨k, at_⟩ := e
    rw [ha] at hr
    obtain ⟨b, rfl, _, _⟩ := hr
    clear hb2 ha hst
    go_wp2
    go_ret
    exact ⟨rfl, HB2.out⟩
  | ok cl =>
    obtain ⟨c, l⟩ := cl
    rw [ha] at hr hst
    obtain ⟨cv, lv, rfl, hc, _⟩ := hr
    obtain ⟨pc, cc, rfl⟩ := row_form hc
    have hcl := (assemble_small ha).2.2
    have hw : IntKind.i64.wrap ((c.length : Int) + n) = (c.length : Int) + n := IntWalk.i64_in _ (by omega)
    have hd : decide (1024 < (c.length : Int) + n) = true := decide_eq_true hst
    clear hb2 ha hst hc
    go_wp2
    go_ret
    exact ⟨rfl, HB2.out⟩

end Go.Proofs.YtnlpekhohakkbaaGreatDoor
