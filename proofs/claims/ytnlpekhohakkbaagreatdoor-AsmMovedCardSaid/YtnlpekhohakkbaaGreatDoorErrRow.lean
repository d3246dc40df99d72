/- What the rows of layer 8 share: what the row's condition gives a walk (the variable errors.errorType; the world's shape), a world that meets it (the witness), the texts among the arguments, opened. -/
import Derived.Test.YtnlpekhohakkbaaGreatDoorRows
import Derived.Test.YtnlpekhohakkbaaGreatDoorLaw8
import Derived.ProofKit
import Derived.Lay
import Derived.LaidHandle
import Derived.LaidMore
import Derived.HandedShaped
import Derived.Stop.Joined
namespace Go.Proofs.YtnlpekhohakkbaaGreatDoor
open Go.ChangeShapes Go.WideShapes Go.ChangeAt Go.RowKit Thole

/-- The plain wrap with the row's listed variables and the world's shape, both handed on. -/
theorem returns_and_shaped {H : Type} {enc : TypeId × Value → H} {a : Assume} {C : Checked} {os : Os} {f : FuncId} {fn : Func} {s : ChangeSpec} {conds : List PathCond} {apart fresh handsOn again : Bool} {X : World → Array Value → Prop}
    (hX : ∀ (w w' : World) (args : Array Value), w.heap = w'.heap → X w args → X w' args)
    (own : ownKnob C.prog.godebug = none) (started : os.Started) (noInit : C.prog.inits.idxOf? f = none) (hfn : C.prog.funcs[f]? = some fn)
    (witness : ∃ (w : World) (tape : Tape) (i : Input), w.os = os ∧ (w.forCall tape i).Shaped C.prog ∧ i.vars = [] ∧ Input.okWide C.prog (w.forCall tape i) .any w.heap.size f i ∧
      ((s.pre enc C.prog fn conds apart (w.forCall tape i).memory i.args ∧ X (w.forCall tape i).memory i.args) ∧ sizedMet enc C.prog fn (OpenSpec.ofChange s) apart (w.forCall tape i).memory i.args) ∧ a.holds C.prog (lone (Frame.enter C.prog f i.args .normal) [] (w.forCall tape i)))
    (contract : ∀ (W : World) (base : Nat) (args : Array Value) (ds gs : List (DataW H)) (before : List MemPlace),
      (∀ (j : Nat) t v, fn.params[j]? = some t → args[j]? = some v → Value.okWide C.prog W .any base t v) →
      DataW.Whole enc C.prog fn.params.toList s.vars apart W args.toList ds gs before →
      (DataW.weightsEach C.prog (fn.params.toList ++ s.plain.varTypes C.prog) (ds ++ gs)).all (· ≤ reachBytes) = true → X W args → W.ShapedOpen C.prog →
      Calls C.prog f args W fun e W' => ∃ v, e = .returned v ∧ s.post enc C.prog fn apart fresh handsOn again W args v W') :
    ReturnsInHanded a C os f .any (fun w args => (s.pre enc C.prog fn conds apart w args ∧ X w args) ∧ sizedMet enc C.prog fn (OpenSpec.ofChange s) apart w args) (s.post enc C.prog fn apart fresh handsOn again) := by
  refine returnsInHanded_of_calls own started noInit witness ?_
  intro w tape i _ hsh _ hok hpre hholds
  obtain ⟨_, _, _, fn', hfn', _, _, _, _, hval⟩ := hok
  have e : fn' = fn := Option.some.inj (hfn'.symm.trans hfn)
  subst e
  obtain ⟨⟨⟨ds, gs, before, hw, hc⟩, hx⟩, hz⟩ := hpre
  have hw' := DataW.Whole.of_heap (w' := w.forCall tape i) (by rfl) hw
  refine (contract (w.forCall tape i) w.heap.size i.args ds gs before hval hw' (hz.weights hw) (hX _ _ _ (by rfl) hx) hsh).mono fun e W' ⟨v, he, hp⟩ => ?_
  subst he
  exact ChangeSpec.post_blind hp

theorem own : ownKnob Tryz.prog.godebug = none := by kernel_rfl
theorem laidOut : laidOutB Tryz.prog = true := by kernel_rfl
theorem errType : Tryz.prog.globalNamed "errors.errorType" = some 0 := by kernel_rfl
theorem rtypeRow : (Tryz.prog.cutTypes.find? (·.1 == "internal/reflectlite.rtype")).map (·.2) = some 258 := by kernel_rfl
theorem errorRow : ((List.range Tryz.prog.types.size).filter fun t => Tryz.prog.rowNamed t [101, 114, 114, 111, 114]) = [28] := by kernel_rfl
theorem errorHandle : typeHandle Tryz.prog 28 = .pointer (some ⟨9, 28, none⟩) := by kernel_rfl

/-- the variables that the row lists -/
abbrev listed : List (String × DataW Unit) := Rows.asmMovedRow.laid
theorem listed_handles : (listed.filter fun x => x.2.handleName?.isSome) = [("errors.errorType", Rows.laid_errors_errorType)] := by kernel_rfl

/-- WHAT THE CONDITION GIVES A WALK: the variable's one cell. -/
theorem handle_of_laid {W : World} (h : laidMetH Tryz.prog listed W) : Handle W := by
  unfold laidMetH at h
  rw [listed_handles] at h
  obtain ⟨name, u, ty, e1, e2, e3, e4, e5⟩ := h.2 _ (List.mem_singleton.2 rfl)
  have en : name = [101, 114, 114, 111, 114] := (Option.some.inj e1).symm
  subst en
  obtain rfl := Option.some.inj (rtypeRow.symm.trans e2)
  have hm : ty ∈ (List.range Tryz.prog.types.size).filter fun t => Tryz.prog.rowNamed t [101, 114, 114, 111, 114] := List.mem_filter.2 ⟨List.mem_range.2 e3, e4⟩
  rw [errorRow] at hm
  obtain rfl := List.mem_singleton.1 hm
  rw [errorHandle] at e5
  unfold Handle
  simpa using World.var?_cell errType e5 0

/-- the settled world, the handle's cell laid -/
noncomputable def handleWorld (os : Os) : World :=
  let w0 := World.holding Tryz.prog os ⟨#[], #[], []⟩
  { w0 with heap := w0.heap.modify 0 fun
      | .cells _ t frozen => .cells #[.iface 258 (.agg #[.pointer (some ⟨9, 28, none⟩)])] t frozen
      | o => o }
/-- .. and the other listed variables -/
def plainListed : List (String × DataW Unit) := listed.filter fun x => x.2.handleName?.isNone
noncomputable def rowWorld (os : Os) : World := (handleWorld os).layVars Tryz.prog plainListed
theorem rowWorld_os (os : Os) : (rowWorld os).os = os := (World.layVars_os _ _ _).trans rfl
def greatNames : List String := plainListed.map (·.1)
theorem great_all : (plainListed.filter fun x => greatNames.contains x.1) = plainListed :=
  List.filter_eq_self.2 fun x hx => List.contains_iff_mem.2 (List.mem_map.2 ⟨x, hx, rfl⟩)
theorem great_none : (plainListed.filter fun x => !greatNames.contains x.1) = [] :=
  List.filter_eq_nil_iff.2 fun x hx => by rw [show greatNames.contains x.1 = true from List.contains_iff_mem.2 (List.mem_map.2 ⟨x, hx, rfl⟩)]; simp
theorem rowWorld_met (os : Os) (args : Array Value) : laidMetH Tryz.prog listed ((rowWorld os).forCall (fun _ _ => 0) ⟨#[], args, []⟩).memory := by
  have h : laidMet Tryz.prog plainListed (rowWorld os) :=
    laidMet_layVars (w0 := handleWorld os) greatNames [] (by rw [great_all]; rfl) (by rw [great_all]; kernel_rfl) (by rw [great_all]; kernel_rfl) (by rw [great_none]; exact LaidIn.none)
  exact laidMetH_of_parts (h.of_heap (by simp [World.memory, World.forCall, Input.heap])) (by kernel_rfl)

/- ## the texts among the arguments -/
theorem weightsAll_mem {H : Type} {P : Program} {e : TypeId} : ∀ {l : List (DataW H)} {d : DataW H}, d ∈ l → ∀ n ∈ d.weights P e, n ∈ DataW.weightsAll P e l
  | d' :: r, d, hd, n, hn => by
    simp only [DataW.weightsAll, List.mem_append]
    rcases List.mem_cons.1 hd with rfl | h
    · exact .inl hn
    · exact .inr (weightsAll_mem h n hn)
theorem sized_texts {H : Type} {ts : List TypeId} {ds : List (DataW H)} (h : (DataW.weightsEach Tryz.prog ts ds).all (· ≤ reachBytes) = true) {j : Nat} {ss : List ByteArray} {sp : List (DataW H)} (ht : ts[j]? = some 22) (hd : ds[j]? = some (.slice (Go.ChangeShapes.strs ss) sp)) :
    ∀ s ∈ ss, s.size ≤ reachBytes := by
  intro s hs
  have hm : (DataW.lit (.string s.data.toList) : DataW H) ∈ (Go.ChangeShapes.strs ss : List (DataW H)) := List.mem_map.2 ⟨s, hs, rfl⟩
  have hw := weightsAll_mem (P := Tryz.prog) (e := 9) hm s.data.toList.length (by simp [DataW.weights])
  have := List.all_eq_true.1 h _ (DataW.weights_mem_each ht hd s.data.toList.length (by
    simp only [DataW.weights, Tryz.underlying22, List.mem_cons, List.mem_append]
    exact .inr (.inl hw)))
  have h2 : s.data.toList.length ≤ reachBytes := by simpa using this
  rw [size_toList] at h2
  exact h2

theorem reach_small {n : Nat} (h : n ≤ reachBytes) : n ≤ 140737488355327 := Nat.le_trans h (by decide)

/-- a slice of texts that came in -/
theorem open_texts {H : Type} {enc : TypeId × Value → H} {W : World} {base : Nat} {held : Bool} {fuel : Nat} {v : Value} {x : DataW H × List MemPlace} {ts : List TypeId} {ds : List (DataW H)} {j : Nat}
    (h : DataW.trod enc Tryz.prog W base (fun _ => true) held fuel 22 [v] = some x) (hsz : (DataW.weightsEach Tryz.prog ts ds).all (· ≤ reachBytes) = true) (ht : ts[j]? = some 22) (hd : ds[j]? = some x.1) :
    ∃ (p : Option Addr) (cap : Nat) (texts : List Bytes), v = .slice p texts.length cap ∧ StrsAt W p texts ∧ ∀ s ∈ texts, s.length ≤ 140737488355327 := by
  have c9 : Tryz.prog.cellsOf 9 = 1 := by kernel_rfl
  rcases open_strings Tryz.underlying22 Tryz.underlying9 c9 h with ⟨hcs, hx⟩ | ⟨a, len, cap, ss, hcs, _, hl, hm, hz, hx, hcell, _⟩
  · injection hcs with hv
    subst hv
    exact ⟨none, 0, [], rfl, fun i hi => absurd hi (Nat.not_lt_zero _), fun s hs => by cases hs⟩
  · injection hcs with hv
    subst hv
    rw [if_pos rfl] at hz
    subst hx
    have hb := sized_texts hsz ht hd
    have hlen : (ss.take len).length = len := by rw [List.length_take]; omega
    refine ⟨some a, cap, (ss.take len).map fun s => s.data.toList, by rw [List.length_map, hlen], fun i hi => ?_, fun s hs => ?_⟩
    · rw [List.length_map, hlen] at hi
      have hc := hcell i (by omega)
      have hs0 := World.cell?_spot (hcell 0 (by omega))
      obtain ⟨b, o, sp⟩ := a
      have hsp : sp = none := by
        unfold Addr.add at hs0
        rw [if_pos rfl] at hs0
        exact hs0
      subst hsp
      have hadd : (⟨b, o, none⟩ : Addr).add i = ⟨b, o + i, none⟩ := by
        unfold Addr.add
        split
        · rename_i h0
          subst h0
          rfl
        · rfl
      rw [hadd] at hc
      refine ⟨b, o, rfl, World.block_lt_of_cell? W _ hc, ?_⟩
      rw [hc, List.getElem_map, List.getElem_take]
      simp only [List.getD, List.getElem?_eq_getElem (show i < ss.length by omega), Option.getD_some]
    · obtain ⟨t, ht', rfl⟩ := List.mem_map.1 hs
      have := reach_small (hb t ht')
      rw [size_toList]
      exact this

end Go.Proofs.YtnlpekhohakkbaaGreatDoor
