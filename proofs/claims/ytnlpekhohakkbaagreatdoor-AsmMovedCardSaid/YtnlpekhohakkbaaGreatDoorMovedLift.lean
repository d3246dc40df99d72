/- AsmMoved: the row's contract, out of the walk. -/
import Derived.Test.YtnlpekhohakkbaaGreatDoorErrRow
import Derived.Test.YtnlpekhohakkbaaGreatDoorMoved3
namespace Go.Proofs.YtnlpekhohakkbaaGreatDoor
open Go.ChangeShapes Go.WideShapes Go.ChangeAt Go.RowKit Thole

theorem moved_params : ([22, 3].all fun t => Tryz.prog.readableRec t && decide (t < Tryz.prog.types.size)) = true := by kernel_rfl

set_option maxRecDepth 100000 in
theorem moved_lifted (os : Os) (started : os.Started) (H : Type) (enc : TypeId × Value → H) :
    ReturnsInHanded {} Tryz.checked os 3 .any (fun w args => (Rows.asmMovedSpec.pre enc Tryz.prog Tryz.f3 [] false w args ∧ laidMetH Tryz.prog listed w) ∧ sizedMet enc Tryz.prog Tryz.f3 (OpenSpec.ofChange Rows.asmMovedSpec) false w args)
      (Rows.asmMovedSpec.post enc Tryz.prog Tryz.f3 false true false false) := by
  refine returns_and_shaped (C := Tryz.checked) (X := fun w _ => laidMetH Tryz.prog listed w) (fun _ _ _ hh h => h.of_heap hh) own started (by kernel_rfl) Tryz.func3
    (ChangeSpec.witness_shaped (enc := enc) (C := Tryz.checked) (os := os) (X := fun w _ => laidMetH Tryz.prog listed w) false (rowWorld os) #[.slice none 0 0, .int .i64 0] 8 (rowWorld_os os)
      (World.shaped_of_ZipB (by kernel_rfl) (by kernel_rfl)) (by kernel_rfl) (by kernel_rfl) (by kernel_rfl) (rowWorld_met os _)) ?_
  intro W base args ds gs before hval0 hW hsz hL hsh
  have hval : ∀ (j : Nat) t v, Tryz.f3.params[j]? = some t → args[j]? = some v → Value.okWide Tryz.prog W .any base t v := hval0
  have hW' := hW
  obtain ⟨p, q, hA0, hV, rfl, hfz, hnd⟩ := hW
  have hA : DataW.TrodAll enc Tryz.prog W 0 (fun _ => true) true Tryz.f3.params.toList args.toList ds p := hA0
  have hlt := hA.lt
  have hsz' : (DataW.weightsEach Tryz.prog (Tryz.f3.params.toList ++ Rows.asmMovedSpec.plain.varTypes Tryz.prog) (ds ++ gs)).all (· ≤ reachBytes) = true := hsz
  clear hA0 hval0 hsz
  rw [Tryz.params3] at hA hval hsz'
  obtain ⟨v0, v1, d0, d1, p0, p1, rfl, rfl, rfl, h0, h1⟩ := trodAll_two hA
  obtain ⟨rfl, rfl⟩ := trodVars_none hV
  have hr := List.all_eq_true.1 moved_params
  have hr0 := hr 22 (by simp)
  have hr1 := hr 3 (by simp)
  rw [Bool.and_eq_true, decide_eq_true_eq] at hr0 hr1
  obtain ⟨a0, len0, cap0, rfl⟩ := okWide_slice Tryz.underlying22 (hval 0 22 v0 rfl rfl)
  obtain ⟨n, hn, _, _, _⟩ := open_int Tryz.underlying3 (hval 1 3 v1 rfl rfl) h1
  subst hn
  obtain ⟨fuel, hf⟩ := h0
  obtain ⟨pp, cap, texts, hv, hst, hle⟩ := open_texts (x := (d0, p0)) hf hsz' (j := 0) rfl rfl
  rw [hv]
  refine (moved_any texts pp cap n W hsh (handle_of_laid hL) hst (fun s hs => Nat.le_trans (hle s hs) (by decide))).mono fun e W' ⟨he, hb⟩ => ?_
  subst he
  rw [← hv]
  refine ⟨_, rfl, [d0, d1], [], _, [], _, [], hW', trodAll_mk1 (shut_bool Tryz.underlying4 true),
    trodAll_mk2 (hb.trod laidOut hr0.1 hr0.2 ⟨fuel, hf⟩ fun x hx => hlt x (List.mem_append.2 (.inl hx))) (hb.trod laidOut hr1.1 hr1.2 h1 fun x hx => hlt x (List.mem_append.2 (.inr hx))), rfl, hb.frame _, fun h => by cases h⟩

end Go.Proofs.YtnlpekhohakkbaaGreatDoor
