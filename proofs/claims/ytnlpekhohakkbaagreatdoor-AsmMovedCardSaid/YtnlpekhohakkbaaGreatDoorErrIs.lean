/- errors.Is at a *api.Spot and its Code; tholelaw00.Is. -/
import Derived.Test.YtnlpekhohakkbaaGreatDoorErr
import Derived.Test.YtnlpekhohakkbaaGreatDoorParse0
import Derived.Lib.IfaceEq
namespace Go.Proofs.YtnlpekhohakkbaaGreatDoor
open Go.RowKit Go.Extern.Stop Go.Stop Go.Extern Thole

theorem ri_typeOf (v : Value) (w : World) : (Extern.ReflectliteType.typeOf #[.iface 96 v]).run Tryz.prog w = .ok (.iface 258 (.agg #[.pointer (some ⟨9, 96, none⟩)])) w := by kernel_rfl
def ri_comp : Array Value → Sem Value := Extern.ReflectliteType.method fun t => do
  Rtype.noPackHeld "Comparable" t
  pure (.bool (← typeInfo t).comparable)
theorem ri_comparable (w : World) : (ri_comp #[.agg #[.pointer (some ⟨9, 96, none⟩)]]).run Tryz.prog w = .ok (.bool true) w := by kernel_rfl
theorem ri_methodComparable (v : Value) (w : World) : (Go.method 480 258 v "Comparable").run Tryz.prog w = .ok (277, v) w := by kernel_rfl
theorem ri_noIs (v : Value) (xT : TypeId) (w : World) : (Instr.typeAssert (.iface 104 v) xT 270 true).run Tryz.prog w = .ok (.tuple #[.nilIface, .bool false]) w := run_typeAssert_lacksB Tryz.underlying270 (by kernel_rfl) (by kernel_rfl) v xT w
theorem ri_hasUnwrap (v : Value) (xT : TypeId) (w : World) : (Instr.typeAssert (.iface 104 v) xT 265 true).run Tryz.prog w = .ok (.tuple #[.iface 104 v, .bool true]) w := run_typeAssert_hasB Tryz.underlying265 (by kernel_rfl) v xT w
theorem ri_methodUnwrap (v : Value) (w : World) : (Go.method 480 104 v "Unwrap").run Tryz.prog w = .ok (270, v) w := by kernel_rfl
theorem ri_codeComp : (Tryz.prog.info? 96).map (·.comparable) = some true := by kernel_rfl

set_option maxRecDepth 100000 in
set_option maxHeartbeats 2000000 in
/-- errors.Is(e, c), e a Spot that holds c: one Unwrap, then equal. -/
theorem is_hit (b : Nat) (at_ c : Int) (w : World) (hb : Blk w b 106 #[.int .i64 at_, codeV c]) :
    Calls Tryz.prog 67 #[.iface 104 (.pointer (some ⟨b, 0, none⟩)), codeV c] w fun e w' => e = .returned (.bool true) ∧ w' = w := by
  have h8 := @run_callFunc_extern Tryz.prog 125 _ Extern.ReflectliteType.typeOf Tryz.func125 (by kernel_rfl) (by kernel_rfl) (by kernel_rfl) (by kernel_rfl)
  have h32 := @run_callFunc_extern Tryz.prog 277 _ ri_comp Tryz.func277 (by kernel_rfl) (by kernel_rfl) (by kernel_rfl) (by kernel_rfl)
  have tT := ri_typeOf
  have cT := ri_comparable
  have mR := ri_methodComparable
  have nE := ri_noIs
  have uE := ri_hasUnwrap
  have mU := ri_methodUnwrap
  have hne := run_eql_iface_types (P := Tryz.prog) 104 96 (.pointer (some ⟨b, 0, none⟩)) (.int .i64 c) Tryz.underlying28 (by decide) w
  have heq := Lib.run_eql_iface_int (P := Tryz.prog) (k := .i64) w c c Tryz.underlying28 ri_codeComp Tryz.underlying96
  rw [beq_self_eq_true] at heq
  have h1 := hb.cell 1
  simp only [List.getElem?_toArray, List.getElem?_cons_zero, List.getElem?_cons_succ, codeV] at h1
  simp only [codeV]
  clear hb
  go_enter Tryz.func67, Tryz.ntmps67
  go_wp2
  refine wp_loop_rounds 2 ?_
  rw [rounds_succ]
  go_wp2
  rw [rounds_succ]
  go_wp2
  go_ret
  exact ⟨rfl, rfl⟩

/-- the package-level variable that errors.As reads -/
def Handle (w : World) : Prop := w.cell? ⟨0, 0, none⟩ = some (.iface 258 (.agg #[.pointer (some ⟨9, 28, none⟩)]))
theorem Handle.below {w w' : World} (h : Handle w) (hb : Below w.heap.size w w') : Handle w' :=
  (World.cell?_of_block (hb.block 0 (World.block_lt_of_cell? w _ h))).trans h

theorem as_spot (b t : Nat) (w : World) (hg : Handle w) (ht : Blk w t 104 #[.pointer none]) :
    Calls Tryz.prog 66 #[.iface 104 (.pointer (some ⟨b, 0, none⟩)), .iface 149 (.pointer (some ⟨t, 0, none⟩))] w fun e w' => e = .returned (.bool true) ∧ Blk w' t 104 #[.pointer (some ⟨b, 0, none⟩)] ∧ Chg (fun k => k = t) w w' := by
  refine (as_hit ⟨b, 0, none⟩ ⟨t, 0, none⟩ (.pointer none) w hg (ht.cell 0) (ht.frozen 0)).mono ?_
  rintro e w' ⟨rfl, rfl⟩
  exact ⟨rfl, ((((ht.alloc _).alloc _).alloc _).alloc _).set_ 0 _, (((((Chg.refl (fun k => k = t) w).alloc _).alloc _).alloc _).alloc _).setCell (p := ⟨t, 0, none⟩) (.inl rfl) _⟩

theorem spotComp : (Tryz.prog.info? 104).map (·.comparable) = some true := by kernel_rfl
theorem spotSize : (Tryz.prog.info? 106).map (·.size) = some 2 := by kernel_rfl

theorem run_neq_iface_ptr_same {P : Program} (w : World) {ti tp te : TypeId} {ms : Array (String × TypeId)} {i j : TypeInfo} (a : Addr)
    (hi : P.underlying ti = some (.interface ms)) (hp : P.underlying tp = some (.pointer te)) (hinfo : P.info? tp = some i) (hcomp : i.comparable = true) (hte : P.info? te = some j) :
    (binOp .neq ti (.iface tp (.pointer (some a))) (.iface tp (.pointer (some a)))).run P w = .ok (.bool false) w := by
  simp only [binOp]
  simp [Op.equal, Op.maxDepth, run_equalIn_iface_ptr_same w 9998 a hi hp hinfo hcomp hte]

set_option maxRecDepth 100000 in
set_option maxHeartbeats 1000000 in
theorem is_told (b : Nat) (at_ c : Int) (w : World) (hg : Handle w) (hb : Blk w b 106 #[.int .i64 at_, codeV c]) :
    Calls Tryz.prog 38 #[.iface 104 (.pointer (some ⟨b, 0, none⟩)), .int .i64 at_, .int .i64 c] w fun e w' => e = .returned (.bool true) ∧ Below w.heap.size w w' := by
  obtain ⟨i, hi, hcmp⟩ := Option.map_eq_some_iff.1 spotComp
  obtain ⟨j, hj, hjs⟩ := Option.map_eq_some_iff.1 spotSize
  have HG := Lib.hid hg
  have HB := Lib.hid hb
  clear hg hb
  go_enter Tryz.func38, Tryz.ntmps38
  go_wp2_with fail
  refine (as_spot b w.heap.size _ (HG.out.below ((Below.refl w.heap.size w).alloc (Nat.le_refl _) _)) (Blk.new w _ _)).mono ?_
  rintro e w2 ⟨rfl, ht, hc⟩
  have hb2 : Below w.heap.size w w2 := ((Below.refl w.heap.size w).alloc (Nat.le_refl _) _).trans (hc.below (by simp) (fun k hk => by omega))
  have hlt := HB.out.lt
  have HB2 := Lib.hid (HB.out.below hb2 hlt)
  have HBW := Lib.hid hb2
  have t0 := ht.cell 0
  simp only [List.getElem?_toArray, List.getElem?_cons_zero] at t0
  have heq := run_neq_iface_ptr_same (P := Tryz.prog) w2 ⟨b, 0, none⟩ Tryz.underlying28 Tryz.underlying104 hi hcmp hj
  clear hc hb2 ht
  go_wp2_with fail
  refine (is_hit b at_ c _ HB2.out).mono ?_
  rintro e w' ⟨rfl, hw⟩
  obtain rfl : w2 = w' := hw.symm
  clear hw heq
  have b0 := HB2.out.cell 0
  have b1 := HB2.out.cell 1
  simp only [List.getElem?_toArray, List.getElem?_cons_zero, List.getElem?_cons_succ, codeV] at b0 b1
  have heq := Lib.run_eql_iface_int (P := Tryz.prog) (k := .i64) w2 c c Tryz.underlying28 ri_codeComp Tryz.underlying96
  rw [beq_self_eq_true] at heq
  go_wp2
  go_ret
  exact ⟨rfl, HBW.out⟩

end Go.Proofs.YtnlpekhohakkbaaGreatDoor
