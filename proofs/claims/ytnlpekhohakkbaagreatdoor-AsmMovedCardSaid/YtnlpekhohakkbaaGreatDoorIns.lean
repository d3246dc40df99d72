/- The walks of package ins: what each of its functions hands back, over plain Lean's words. -/
import Derived.Test.YtnlpekhohakkbaaGreatDoorPlainName
import Derived.Test.YtnlpekhohakkbaaGreatDoorShelf
import Derived.Shelf.Strings.SlTrimAscii
import Derived.WalkKit
import Derived.WalkSpells
import Derived.WalkLawsBesides
import Derived.BigGuardPart
import Derived.Deep.QuietTactic
import Derived.BigQuiet
namespace Go.Proofs.YtnlpekhohakkbaaGreatDoor
open Go.RowKit Thole

theorem letter_any (x : Int) (w : World) :
    Calls Tryz.prog 175 #[.int .u8 x] w fun e w' => e = .returned (.bool (lettI x)) ∧ w = w' := by
  by_cases h : 97 ≤ x <;> by_cases h2 : x ≤ 122
  all_goals
    go_enter Tryz.func175, Tryz.ntmps175
    go_wp2
    go_ret
    exact ⟨by simp [lettI, h, h2], rfl⟩

/-- what ins.name says -/
def nameV (s : ByteArray) : Bool := nameB s.data.toList

theorem ret_bool {a b : Bool} (h : a = b) : Ending.returned (.bool a) = .returned (.bool b) := by rw [h]

set_option maxHeartbeats 400000 in
theorem name_any (s : ByteArray) (w : World) :
    Calls Tryz.prog 132 #[.string s] w fun e w' => e = .returned (.bool (nameV s)) ∧ w = w' := by
  by_cases h1 : 1 ≤ s.size
  · have d1 : decide ((s.size : Int) < 1) = false := decide_eq_false (by omega)
    by_cases h2 : s.size ≤ 24
    · have d2 : decide (24 < (s.size : Int)) = false := decide_eq_false (by omega)
      cases hl : lettI (s[0].toNat : Int)
      · have HF : Hid (nameV s = false) := nameB_head (by omega) hl
        have h0 : 0 < s.size := by omega
        go_enter Tryz.func132, Tryz.ntmps132
        go_wp2_with (go_at_call 175; refine (letter_any _ _).mono ?_; rintro e w' ⟨rfl, rfl⟩)
        go_ret
        exact ⟨ret_bool HF.out.symm, rfl⟩
      · have HF : Hid (nameV s = (s.data.toList.drop 0).all nameChar) := nameB_all h1 h2 hl
        have h0 : 0 < s.size := by omega
        go_enter Tryz.func132, Tryz.ntmps132
        go_wp2_with (go_at_call 175; refine (letter_any _ _).mono ?_; rintro e w' ⟨rfl, rfl⟩)
        go_loop [3] (fun i => ∃ k : Nat, k ≤ s.size ∧ i = .int .i64 k ∧ Hid (nameV s = (s.data.toList.drop k).all nameChar)) (fun i => s.size - (intOf i).toNat)
        case atStart => exact ⟨0, Nat.zero_le _, rfl, HF⟩
        case round =>
          obtain ⟨k, hk, rfl, HR⟩ := hrel
          clear HF
          by_cases hlt : k < s.size
          · have HA : Hid _ := all_from (p := nameChar) s k hlt
            rcases charIs s[k] with ⟨c1, g⟩ | ⟨c1, c2, c3, g⟩ | ⟨c1, c2, c3, c4, g⟩ | ⟨c1, c2, c3, c4, g⟩ | ⟨c1, c2, c3, c4, g⟩ | ⟨c1, c2, c3, c4, c5, g⟩
            all_goals
              have G := Lib.hid g
              clear g
              go_wp2_with (go_at_call 175; refine (letter_any _ _).mono ?_; rintro e w' ⟨rfl, rfl⟩)
            all_goals first
              | (go_ret
                 exact ⟨ret_bool (by rw [HR.out, HA.out, G.out]; rfl), rfl⟩)
              | (go_round
                 case rel => exact ⟨k + 1, by omega, by go_num, by unfold Hid; rw [HR.out, HA.out, G.out]; rfl⟩
                 case measure => simp [intOf]; omega)
          · go_wp2
            go_ret
            obtain rfl : k = s.size := by omega
            exact ⟨ret_bool (by rw [HR.out, all_end]), rfl⟩
    · have d2 : decide (24 < (s.size : Int)) = true := decide_eq_true (by omega)
      have HF : Hid (nameV s = false) := nameB_short (.inr (by omega))
      go_enter Tryz.func132, Tryz.ntmps132
      go_wp2
      go_ret
      exact ⟨ret_bool HF.out.symm, rfl⟩
  · have h0 : s.size = 0 := by omega
    have HF : Hid (nameV s = false) := nameB_short (.inl (by omega))
    go_enter Tryz.func132, Tryz.ntmps132
    go_wp2
    go_ret
    exact ⟨ret_bool HF.out.symm, rfl⟩

/- ## ins.number -/
theorem ascii_digits : ∀ (j : Nat) b, (⟨#[48, 49, 50, 51, 52, 53, 54, 55, 56, 57]⟩ : ByteArray).data.toList[j]? = some b → b.toNat < 128 := ascii_of_all (by decide)
theorem info_asciiSet : (Tryz.prog.info? (Tryz.lays160_ren.t 116)).map (fun i => (i.zero, i.size)) = some (some (.agg (Array.replicate 256 (.bool false))), 256) := by kernel_rfl

theorem trimPrefix_minus (s : ByteArray) (w : World) :
    Calls Tryz.prog 209 #[.string s, .string ⟨#[45]⟩] w fun e w' => e = .returned (.string ⟨(minusless s).toArray⟩) ∧ w = w' :=
  (Tryz.strings_TrimPrefix s ⟨#[45]⟩ w).mono fun _ _ ⟨he, hw⟩ => ⟨he, hw.symm⟩
theorem trim_digits (l : Bytes) (w : World) (hl : l.length ≤ 140737488355328) :
    Calls Tryz.prog 130 #[.string ⟨l.toArray⟩, .string ⟨#[48, 49, 50, 51, 52, 53, 54, 55, 56, 57]⟩] w fun e w' => e = .returned (.string ⟨(undigits l).toArray⟩) ∧ Below w.heap.size w w' :=
  Any.strings_Trim_laid Tryz.lays160 info_asciiSet ⟨l.toArray⟩ ⟨#[48, 49, 50, 51, 52, 53, 54, 55, 56, 57]⟩ w (by show l.toArray.size ≤ _; simp; omega) (by decide) ascii_digits
theorem parseInt_any (s : ByteArray) (v : Int) (w : World) (hs : s.size ≤ 140737488355328) (h : numV s = some v) :
    Calls Tryz.prog 210 #[.string s, .int .i64 10, .int .i64 64] w fun e w' => e = .returned (.tuple #[.int .i64 v, .nilIface]) ∧ Below w.heap.size w w' :=
  (Tryz.strconv_ParseInt_10_at64_ok s (by omega) v (parseInt_number h) w).mono fun _ _ ⟨he, hw⟩ => ⟨he, by
    rcases hw with rfl | ⟨t, rfl⟩
    · exact Below.refl _ _
    · exact Lib.bytesWorld_below _ _ _⟩

/-- what ins.number hands back: a number, and whether it is one -/
def NumRes (s : ByteArray) (e : Ending) : Prop := ∃ v b, e = .returned (.tuple #[.int .i64 v, .bool b]) ∧ numV s = if b = true then some v else none

set_option maxHeartbeats 400000 in
theorem number_any (s : ByteArray) (w : World) (hs : s.size ≤ 140737488355328) :
    Calls Tryz.prog 177 #[.string s] w fun e w' => NumRes s e ∧ Below w.heap.size w w' := by
  have hle := minusless_le s
  by_cases h1 : 1 ≤ (minusless s).length
  · have d1 : decide (((minusless s).length : Int) < 1) = false := decide_eq_false (by omega)
    by_cases h2 : (minusless s).length ≤ 18
    · have d2 : decide (18 < ((minusless s).length : Int)) = false := decide_eq_false (by omega)
      by_cases h3 : undigits (minusless s) = []
      · obtain ⟨v, hv⟩ := numV_some ⟨h1, h2, (undigits_nil _).1 h3⟩
        have HV := Lib.hid hv
        clear hv
        go_enter Tryz.func177, Tryz.ntmps177
        go_wp2_with (first
          | (go_at_call 209; refine (trimPrefix_minus _ _).mono ?_; rintro e w' ⟨rfl, rfl⟩)
          | (go_at_call 130; refine (trim_digits _ _ (by omega)).mono ?_; rintro e w1 ⟨rfl, hb1⟩)
          | (go_at_call 210; refine (parseInt_any s v _ hs HV.out).mono ?_; rintro e w2 ⟨rfl, hb2⟩))
        go_region
        all_goals (go_wp2; go_ret2; exact ⟨⟨v, true, rfl, HV.out⟩, ((hb1.trans (hb2.mono hb1.size))).drew⟩)
      · obtain ⟨c, r, hc⟩ : ∃ c r, undigits (minusless s) = c :: r := by
          cases hu : undigits (minusless s) with
          | nil => exact absurd hu h3
          | cons c r => exact ⟨c, r, rfl⟩
        have HV : Hid (numV s = none) := numV_none (fun h => h3 ((undigits_nil _).2 h.2.2))
        clear h3
        go_enter Tryz.func177, Tryz.ntmps177
        go_wp2_with (first
          | (go_at_call 209; refine (trimPrefix_minus _ _).mono ?_; rintro e w' ⟨rfl, rfl⟩)
          | (go_at_call 130; refine (trim_digits _ _ (by omega)).mono ?_; rintro e w1 ⟨rfl, hb1⟩))
        go_ret2
        exact ⟨⟨0, false, rfl, HV.out⟩, hb1⟩
    · have d2 : decide (18 < ((minusless s).length : Int)) = true := decide_eq_true (by omega)
      have HV : Hid (numV s = none) := numV_none (fun h => h2 h.2.1)
      go_enter Tryz.func177, Tryz.ntmps177
      go_wp2_with (go_at_call 209; refine (trimPrefix_minus _ _).mono ?_; rintro e w' ⟨rfl, rfl⟩)
      go_ret2
      exact ⟨⟨0, false, rfl, HV.out⟩, Below.refl _ _⟩
  · have d1 : decide (((minusless s).length : Int) < 1) = true := decide_eq_true (by omega)
    have HV : Hid (numV s = none) := numV_none (fun h => h1 h.1)
    go_enter Tryz.func177, Tryz.ntmps177
    go_wp2_with (go_at_call 209; refine (trimPrefix_minus _ _).mono ?_; rintro e w' ⟨rfl, rfl⟩)
    go_ret2
    exact ⟨⟨0, false, rfl, HV.out⟩, Below.refl _ _⟩

/- ## ins.register -/
theorem cutPrefix_r (s : ByteArray) (w : World) :
    Calls Tryz.prog 208 #[.string s, .string ⟨#[114]⟩] w fun e w' => e = .returned (.tuple #[.string ⟨(restR s).toArray⟩, .bool (isR s)]) ∧ w = w' :=
  (Tryz.strings_CutPrefix s ⟨#[114]⟩ w).mono fun _ _ ⟨he, hw⟩ => ⟨he, hw.symm⟩
/-- what ins.register hands back -/
def RegRes (s : ByteArray) (e : Ending) : Prop := ∃ v b, e = .returned (.tuple #[.int .i64 v, .bool b]) ∧ regV s = if b = true then some v else none

set_option maxHeartbeats 400000 in
theorem register_any (s : ByteArray) (w : World) (hs : s.size ≤ 140737488355328) :
    Calls Tryz.prog 176 #[.string s] w fun e w' => RegRes s e ∧ Below w.heap.size w w' := by
  have hle := restR_le s
  go_enter Tryz.func176, Tryz.ntmps176
  go_wp2_with (go_at_call 208; refine (cutPrefix_r _ _).mono ?_; rintro e w' ⟨rfl, rfl⟩)
  refine (number_any _ _ (by show (restR s).toArray.size ≤ _; rw [List.size_toArray]; omega)).mono ?_
  rintro e w1 ⟨⟨v, b, rfl, hv⟩, hb1⟩
  rw [numV_list] at hv
  cases b
  · have HV : Hid (regV s = none) := regV_none (fun u hu => by rw [hv] at hu; exact absurd hu.2.1 (by simp))
    clear hv
    cases hi : isR s
    all_goals
      go_wp2
      go_ret2
      exact ⟨⟨v, false, rfl, HV.out⟩, hb1⟩
  · rw [if_pos rfl] at hv
    cases hi : isR s
    · have HV : Hid (regV s = none) := regV_none (fun u hu => by rw [hi] at hu; exact absurd hu.1 (by simp))
      clear hv
      go_wp2
      go_ret2
      exact ⟨⟨v, false, rfl, HV.out⟩, hb1⟩
    · by_cases h0 : 0 ≤ v
      · obtain ⟨n, rfl⟩ := Int.eq_ofNat_of_zero_le h0
        by_cases h16 : (n : Int) < 16
        · by_cases he : restR s = Lib.decDigits n
          · have HV : Hid (regV s = some (n : Int)) := (regV_iff s n).2 ⟨hi, hv, h0, h16, by rw [itoa_nat]; exact he⟩
            clear hv
            go_wp2_with (go_at_call 116; refine (Tryz.strconv_FormatInt_10_small n (by omega) _).mono ?_; rintro e w' ⟨rfl, rfl⟩)
            go_ret2
            exact ⟨⟨n, true, rfl, HV.out⟩, hb1⟩
          · have HV : Hid (regV s = none) := regV_none (fun u hu => by
              rw [hv] at hu
              have e := Option.some.inj hu.2.1
              subst e
              exact he (by rw [hu.2.2.2.2, itoa_nat]))
            clear hv
            have he' : (restR s == Lib.decDigits n) = false := beq_eq_false_iff_ne.2 he
            go_wp2_with (go_at_call 116; refine (Tryz.strconv_FormatInt_10_small n (by omega) _).mono ?_; rintro e w' ⟨rfl, rfl⟩)
            go_ret2
            exact ⟨⟨n, false, rfl, HV.out⟩, hb1⟩
        · have HV : Hid (regV s = none) := regV_none (fun u hu => by
            rw [hv] at hu
            have e := Option.some.inj hu.2.1
            omega)
          clear hv
          have d2 : decide ((n : Int) < 16) = false := decide_eq_false h16
          go_wp2
          go_ret2
          exact ⟨⟨n, false, rfl, HV.out⟩, hb1⟩
      · have HV : Hid (regV s = none) := regV_none (fun u hu => by
          rw [hv] at hu
          have e := Option.some.inj hu.2.1
          omega)
        clear hv
        have d2 : decide (0 ≤ v) = false := decide_eq_false h0
        go_wp2
        go_ret2
        exact ⟨⟨v, false, rfl, HV.out⟩, hb1⟩

end Go.Proofs.YtnlpekhohakkbaaGreatDoor
